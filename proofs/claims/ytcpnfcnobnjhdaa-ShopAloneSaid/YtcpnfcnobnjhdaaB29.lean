/- Parts of the proofs of this seat: Dispatch. Each part says what it proves; no condition beyond those stated there. -/
import Derived.Deep.LoopGhost
import Derived.Test.YtcpnfcnobnjhdaaB21
import Derived.Test.YtcpnfcnobnjhdaaB28

/- Dispatch of package shop: the walk. -/
namespace Go.Proofs.Ytcpnfcnobnjhdaa
open Go.RowKit
theorem DeskAt.notOf {B : Nat} {w : World} {g mb bo bp : Nat} {brs : List Nat} {s : Sh} {D : Desk} (h : DeskAt B w g mb bo bp brs s D) {q : Nat} (hq : q < B ∨ w.heap.size ≤ q) : ¬ OfDesk mb bo brs q := fun ho => by
  have hm : q ∈ g :: mb :: bo :: bp :: brs := by
    rcases ho with rfl | rfl | ho
    · simp
    · simp
    · simp [ho]
  have h1 := h.base q hm
  have h2 := h.lts q hm
  omega
/-- the desk and the counts of package shop, and the state -/
structure PD (p : Shop) (S : DS) (D : Desk) (dn : List Int) : Prop where
  last : D.last = S.last
  onl : D.on.length = p.jobs.length
  pll : D.plan.length = p.jobs.length
  dnl : dn.length = p.jobs.length
  on : ∀ (j : Nat) st l, p.jobs[j]? = some st → S.pl[j]? = some l → D.on[j]? = some (rdy st l)
  pl : ∀ (j : Nat) st l, p.jobs[j]? = some st → S.pl[j]? = some l → D.plan[j]? = some (l ++ List.replicate (st.length - l.length) 0)
  dn : ∀ (j : Nat) st l, p.jobs[j]? = some st → S.pl[j]? = some l → dn[j]? = some (l.length : Int)
theorem PD.start (p : Shop) : PD p (ds0 p) (desk0 p) (List.replicate p.jobs.length 0) := by
  have hl : ∀ {j : Nat} {l : List Int}, (ds0 p).pl[j]? = some l → l = [] := fun {j l} h => by
    simp [ds0, List.getElem?_replicate] at h
    exact h.2
  refine ⟨rfl, by simp [desk0], by simp [desk0], by simp, fun j st l h1 h2 => ?_, fun j st l h1 h2 => ?_, fun j st l h1 h2 => ?_⟩
  · obtain rfl := hl h2
    have := (List.getElem?_eq_some_iff.1 h1).1
    simp [desk0, this, rdy]
  · obtain rfl := hl h2
    simp [desk0, h1]
  · obtain rfl := hl h2
    have := (List.getElem?_eq_some_iff.1 h1).1
    simp [this]
theorem PD.earl {p : Shop} {S : DS} {D : Desk} {dn : List Int} (h : PD p S D dn) {j : Nat} {st : List Step} {l : List Int} {x : Step} (hj : p.jobs[j]? = some st) (hl : S.pl[j]? = some l) : earlF p D j x = nextF p (prevF p S.last x (rdy st l)) x.mi := by
  have e1 : D.on.getD j 0 = rdy st l := by rw [List.getD_eq_getElem?_getD, h.on j st l hj hl]; rfl
  unfold earlF prevF
  rw [e1, h.last]
  rfl
theorem modify_get {α : Type} {l : List α} {j i : Nat} {f : α → α} : (l.modify j f)[i]? = if j = i then l[i]?.map f else l[i]? := by
  rw [List.getElem?_modify]
  cases l[i]? <;> by_cases h : j = i <;> simp [h]
theorem PD.put_ {p : Shop} {S : DS} {D : Desk} {dn : List Int} (h : PD p S D dn) {j : Nat} {st : List Step} {l : List Int} {x : Step} (t : Int) (hj : p.jobs[j]? = some st) (hl : S.pl[j]? = some l) (hx : st[l.length]? = some x) :
    PD p (putS p S j t) (D.put ⟨j, l.length, t, x⟩) (dn.set j ((l.length : Int) + 1)) := by
  rw [putS_eq t hj hl hx]
  have hlt := (List.getElem?_eq_some_iff.1 hx).1
  have hjl := (List.getElem?_eq_some_iff.1 hj).1
  have key : ∀ (i : Nat) st' l', p.jobs[i]? = some st' → (S.pl.modify j fun l => l ++ [t])[i]? = some l' → (j = i ∧ st' = st ∧ l' = l ++ [t]) ∨ (j ≠ i ∧ S.pl[i]? = some l') := fun i st' l' h1 h2 => by
    rw [modify_get] at h2
    by_cases hji : j = i
    · subst hji
      rw [if_pos rfl, hl] at h2
      rw [hj] at h1
      injection h1 with h1
      injection h2 with h2
      exact .inl ⟨rfl, h1.symm, h2.symm⟩
    · rw [if_neg hji] at h2
      exact .inr ⟨hji, h2⟩
  refine ⟨by simp [Desk.put, h.last], by simp [Desk.put, h.onl], by simp [Desk.put, h.pll], by simp [h.dnl], fun i st' l' h1 h2 => ?_, fun i st' l' h1 h2 => ?_, fun i st' l' h1 h2 => ?_⟩
  · show (D.on.set j (At.dry ⟨j, l.length, t, x⟩))[i]? = _
    rw [List.getElem?_set]
    rcases key i st' l' h1 h2 with ⟨rfl, rfl, rfl⟩ | ⟨hji, h3⟩
    · rw [if_pos rfl, if_pos (by rw [h.onl]; exact hjl)]
      congr 1
      unfold rdy At.dry
      simp only [List.length_append, List.length_cons, List.length_nil]
      rw [List.getD_eq_getElem?_getD, List.getD_eq_getElem?_getD, hx]
      simp
    · rw [if_neg hji]; exact h.on i st' l' h1 h3
  · show (D.plan.modify j fun y => y.set l.length t)[i]? = _
    rw [modify_get]
    rcases key i st' l' h1 h2 with ⟨rfl, rfl, rfl⟩ | ⟨hji, h3⟩
    · rw [if_pos rfl, h.pl j st' l hj hl]
      simp only [Option.map_some]
      congr 1
      obtain ⟨m, hm⟩ : ∃ m, st'.length - l.length = m + 1 := ⟨st'.length - l.length - 1, by omega⟩
      rw [hm, show st'.length - (l ++ [t]).length = m by simp; omega, List.replicate_succ]
      rw [List.set_append_right _ _ (Nat.le_refl _)]
      simp
    · rw [if_neg hji]; exact h.pl i st' l' h1 h3
  · rw [List.getElem?_set]
    rcases key i st' l' h1 h2 with ⟨rfl, rfl, rfl⟩ | ⟨hji, h3⟩
    · rw [if_pos rfl, if_pos (by rw [h.dnl]; exact hjl)]
      simp
    · rw [if_neg hji]; exact h.dn i st' l' h1 h3
/-- where nothing is left the desk's plan is the starts -/
theorem PD.done {p : Shop} {S : DS} {D : Desk} {dn : List Int} (h : PD p S D dn) (hs : VS p S) (hn : bestF p S = none) : D.plan = S.pl := by
  have h1 := (bestFrom_none hn).2
  apply List.ext_getElem?
  intro i
  by_cases hi : i < p.jobs.length
  · have hj : p.jobs[i]? = some p.jobs[i] := List.getElem?_eq_getElem hi
    have hl : S.pl[i]? = some (S.pl[i]'(by rw [hs.len]; exact hi)) := List.getElem?_eq_getElem _
    have h2 := h1 i _ _ hj hl
    rw [h.pl i _ _ hj hl, hl]
    have h3 := (hs.row i _ _ hj hl).1
    unfold candT at h2
    have h4 : p.jobs[i].length ≤ (S.pl[i]'(by rw [hs.len]; exact hi)).length := by
      cases hx : p.jobs[i][(S.pl[i]'(by rw [hs.len]; exact hi)).length]? with
      | none => exact List.getElem?_eq_none_iff.1 hx
      | some x => rw [hx] at h2; cases h2
    rw [show p.jobs[i].length - (S.pl[i]'(by rw [hs.len]; exact hi)).length = 0 by omega]
    simp
  · rw [List.getElem?_eq_none (by rw [h.pll]; omega), List.getElem?_eq_none (by rw [hs.len]; omega)]
def accB (acc : Option (Nat × Int)) : Int := match acc with
  | none => -1
  | some (b, _) => b
def accT (acc : Option (Nat × Int)) : Int := match acc with
  | none => 0
  | some (_, t) => t
def DispPost (p : Shop) (w : World) (e : Ending) (w' : World) : Prop := ∃ A c, e = .returned (.tuple #[.slice A (dispF p).length c, .int .i64 0]) ∧ Below w.heap.size w w' ∧ Plan w' w'.heap.size A (dispF p)
theorem ints_zero' (n : Nat) : Array.replicate n (Value.int .i64 0) = ints (List.replicate n 0) := by simp [ints, intV]
/-- the search so far -/
def AccOk (p : Shop) (S : DS) (acc : Option (Nat × Int)) : Prop := ∀ b t, acc = some (b, t) → 0 ≤ t ∧ t ≤ 1000000000 ∧ b < p.jobs.length
set_option maxRecDepth 100000 in
set_option maxHeartbeats 4000000 in
theorem dispatch_any (s : Sh) (w : World) (hS : ShAt w w.heap.size s) (hvB : validShop s.p = true) : Calls Try.prog 33 #[.agg #[.int .i64 s.p.op, .int .i64 s.p.cl, .slice s.aH s.p.hol.length s.cH, .int .i64 s.p.mach, .slice s.aS s.p.setup.length s.cS, .slice s.aJ s.p.jobs.length s.cJ]] w (DispPost s.p w) := by
  have hv := valid_facts hvB
  have hfs := hv.fits
  have hjn := hv.jobn
  have hmk := run_make1 (P := Try.prog) (bytes := 8) (z := .int .i64 0) Try.underlying22 (by kernel_rfl) rfl (by omega) s.p.jobs.length (by omega)
  have HMK := hide hmk
  clear hmk
  obtain ⟨p, aH, cH, aS, cS, aJ, cJ⟩ := s
  dsimp only at *
  have hk := Blk.new w 25 #[.int .i64 p.op, .int .i64 p.cl, .slice aH p.hol.length cH, .int .i64 p.mach, .slice aS p.setup.length cS, .slice aJ p.jobs.length cJ]
  have hB := (Below.refl w.heap.size w).alloc (Nat.le_refl _) (.cells #[.int .i64 p.op, .int .i64 p.cl, .slice aH p.hol.length cH, .int .i64 p.mach, .slice aS p.setup.length cS, .slice aJ p.jobs.length cJ] 25)
  go_enter Try.func33, Try.ntmps33
  go_wp2_with fail
  generalize w.alloc (.cells #[.int .i64 p.op, .int .i64 p.cl, .slice aH p.hol.length cH, .int .i64 p.mach, .slice aS p.setup.length cS, .slice aJ p.jobs.length cJ] 25) = W at *
  have c0 := hk.cell_ 0 rfl
  have c1 := hk.cell_ 1 rfl
  have c2 := hk.cell_ 2 rfl
  have c3 := hk.cell_ 3 rfl
  have c4 := hk.cell_ 4 rfl
  have c5 := hk.cell_ 5 rfl
  go_wp2_with fail
  refine (valid_any ⟨p, aH, cH, aS, cS, aJ, cJ⟩ _ (hS.on hB) hfs.h1 hfs.h2 hfs.h3 hfs.h4).mono ?_
  rintro e W ⟨rfl, hb⟩
  clear c0 c1 c2 c3 c4 c5
  replace hk := hk.below hb hk.lt
  replace hB := hB.trans (hb.mono hB.size)
  clear hb
  have c0 := hk.cell_ 0 rfl
  have c1 := hk.cell_ 1 rfl
  have c2 := hk.cell_ 2 rfl
  have c3 := hk.cell_ 3 rfl
  have c4 := hk.cell_ 4 rfl
  have c5 := hk.cell_ 5 rfl
  dsimp only
  rw [hvB]
  have lk0 := hk.lt
  go_wp2_with fail
  refine (newDesk_any ⟨p, aH, cH, aS, cS, aJ, cJ⟩ _ (hS.on hB) hv).mono ?_
  rintro e W ⟨g, mb, bo, bp, brs, rfl, hb, hD⟩
  clear c0 c1 c2 c3 c4 c5
  replace hk := hk.below hb hk.lt
  replace hB := hB.trans (hb.mono hB.size)
  clear hb
  have c0 := hk.cell_ 0 rfl
  have c1 := hk.cell_ 1 rfl
  have c2 := hk.cell_ 2 rfl
  have c3 := hk.cell_ 3 rfl
  have c4 := hk.cell_ 4 rfl
  have c5 := hk.cell_ 5 rfl
  obtain ⟨B0, hB0⟩ : ∃ B0 : Nat, w.heap.size < B0 ∧ DeskAt B0 W g mb bo bp brs ⟨p, aH, cH, aS, cS, aJ, cJ⟩ (desk0 p) := ⟨_, lk0, hD⟩
  clear hD lk0
  obtain ⟨hB0, hD⟩ := hB0
  have hmk : ∀ w, (Instr.makeSlice 22 (.int .i64 p.jobs.length) (.int .i64 p.jobs.length)).run Try.prog w = .ok (.slice (some ⟨w.heap.size, 0, none⟩) p.jobs.length p.jobs.length) (w.alloc (.cells (Array.replicate p.jobs.length (Value.int .i64 0)) 3)) := fun w => by
    have := HMK.out w
    simpa using this
  have HDB := hide (hD.notOf (q := W.heap.size) (.inr (Nat.le_refl _)))
  have HDN := hide (fun q (hq : q ∈ g :: mb :: bo :: bp :: brs) => Nat.ne_of_lt (hD.lts q hq))
  have lk1 := hk.lt
  have q_c0 := (hk.alloc (.cells (Array.replicate p.jobs.length (Value.int .i64 0)) 3)).cell_ 0 rfl
  have q_c1 := (hk.alloc (.cells (Array.replicate p.jobs.length (Value.int .i64 0)) 3)).cell_ 1 rfl
  have q_c2 := (hk.alloc (.cells (Array.replicate p.jobs.length (Value.int .i64 0)) 3)).cell_ 2 rfl
  have q_c3 := (hk.alloc (.cells (Array.replicate p.jobs.length (Value.int .i64 0)) 3)).cell_ 3 rfl
  have q_c4 := (hk.alloc (.cells (Array.replicate p.jobs.length (Value.int .i64 0)) 3)).cell_ 4 rfl
  have q_c5 := (hk.alloc (.cells (Array.replicate p.jobs.length (Value.int .i64 0)) 3)).cell_ 5 rfl
  go_wp2_with fail
  clear q_c0 q_c1 q_c2 q_c3 q_c4 q_c5
  clear c0 c1 c2 c3 c4 c5
  have hdn := Blk.new W 3 (Array.replicate p.jobs.length (Value.int .i64 0))
  replace hk := hk.alloc (.cells (Array.replicate p.jobs.length (Value.int .i64 0)) 3)
  replace hD := hD.below ((Below.refl _ W).alloc (Nat.le_refl _) (.cells (Array.replicate p.jobs.length (Value.int .i64 0)) 3))
  have hsz_db : (W.alloc (.cells (Array.replicate p.jobs.length (Value.int .i64 0)) 3)).heap.size = W.heap.size + 1 := by simp
  have dbge := hB.size
  replace hB := hB.alloc hB.size (.cells (Array.replicate p.jobs.length (Value.int .i64 0)) 3)
  generalize hdb : W.heap.size = db at *
  generalize W.alloc (.cells (Array.replicate p.jobs.length (Value.int .i64 0)) 3) = W at *
  clear hdb
  have c0 := hk.cell_ 0 rfl
  have c1 := hk.cell_ 1 rfl
  have c2 := hk.cell_ 2 rfl
  have c3 := hk.cell_ 3 rfl
  have c4 := hk.cell_ 4 rfl
  have c5 := hk.cell_ 5 rfl
  rw [ints_zero'] at hdn
  clear hmk hsz_db
  clear c0 c1 c2 c3 c4 c5
  go_loopg [6] (total p) (fun gk x W => ∃ (S : DS) (D : Desk) (dn : List Int), Hid (iterS p gk S = iterS p (total p) (ds0 p)) ∧ Hid (gk + cnt S.pl = total p) ∧ VS p S ∧ PD p S D dn ∧ DeskAt B0 W g mb bo bp brs ⟨p, aH, cH, aS, cS, aJ, cJ⟩ D ∧ Blk W db 3 (ints dn) ∧ Blk W w.heap.size 25 #[.int .i64 p.op, .int .i64 p.cl, .slice aH p.hol.length cH, .int .i64 p.mach, .slice aS p.setup.length cS, .slice aJ p.jobs.length cJ] ∧ Below w.heap.size w W)
  case atStart => exact ⟨ds0 p, desk0 p, List.replicate p.jobs.length 0, hide rfl, hide (by rw [cnt_start]; omega), VS.start p, PD.start p, hD, hdn, hk, hB⟩
  case round =>
    clear hk hB hD hdn
    obtain ⟨W, rfl⟩ : ∃ W : World, W = wr := ⟨_, rfl⟩
    obtain ⟨S, D, dn, HIT, HCN, hVS, hPD, hD, hdn, hk, hB⟩ := hrel
    have c0 := hk.cell_ 0 rfl
    have c1 := hk.cell_ 1 rfl
    have c2 := hk.cell_ 2 rfl
    have c3 := hk.cell_ 3 rfl
    have c4 := hk.cell_ 4 rfl
    have c5 := hk.cell_ 5 rfl
    go_wp2_with fail
    clear c0 c1 c2 c3 c4 c5
    go_loopw [6, 7, 23] (fun a b c W => ∃ (j : Nat) (acc : Option (Nat × Int)), a = .int .i64 (accB acc) ∧ b = .int .i64 (accT acc) ∧ c = .int .i64 j ∧ j ≤ p.jobs.length ∧ Hid (bestF p S = bestFrom p S.last j (p.jobs.drop j) (S.pl.drop j) acc) ∧ AccOk p S acc ∧ Blk W w.heap.size 25 #[.int .i64 p.op, .int .i64 p.cl, .slice aH p.hol.length cH, .int .i64 p.mach, .slice aS p.setup.length cS, .slice aJ p.jobs.length cJ] ∧ DeskAt B0 W g mb bo bp brs ⟨p, aH, cH, aS, cS, aJ, cJ⟩ D ∧ Blk W db 3 (ints dn) ∧ Below w.heap.size w W) (fun a b c _ => p.jobs.length - (intOf c).toNat)
    case atStart => exact ⟨0, none, rfl, rfl, rfl, Nat.zero_le _, hide rfl, (fun b t h => by cases h), hk, hD, hdn, hB⟩
    case round =>
      clear hk hB hD hdn
      obtain ⟨W, rfl⟩ : ∃ W : World, W = wr := ⟨_, rfl⟩
      obtain ⟨j, acc, rfl, rfl, rfl, hj, HS, hAc, hk, hD, hdn, hB⟩ := hrel
      by_cases hlt : j < p.jobs.length
      · obtain ⟨st, hst⟩ : ∃ st, p.jobs[j]? = some st := ⟨_, List.getElem?_eq_getElem hlt⟩
        obtain ⟨l, hl⟩ : ∃ l, S.pl[j]? = some l := ⟨_, List.getElem?_eq_getElem (by rw [hVS.len]; exact hlt)⟩
        have hrw := (hVS.row j st l hst hl).1
        have hsl := (hv.steps j st hst).1
        obtain ⟨b, off, A', c', hA', hb0, hc, hSl⟩ := job_at (hS.on hB).jobs hst
        dsimp only at hA'
        subst hA'
        have HDR := hide (bestFrom_drop (p := p) (last := S.last) (acc := acc) hst hl)
        have HX := hide (And.intro hst hl)
        clear hst hl
        have hji : (j : Int) < (p.jobs.length : Int) := by omega
        have c0 := hk.cell_ 0 rfl
        have c1 := hk.cell_ 1 rfl
        have c2 := hk.cell_ 2 rfl
        have c3 := hk.cell_ 3 rfl
        have c4 := hk.cell_ 4 rfl
        have c5 := hk.cell_ 5 rfl
        have q_c0 := (hk.alloc (.cells #[.slice A' st.length c'] 67)).cell_ 0 rfl
        have q_c1 := (hk.alloc (.cells #[.slice A' st.length c'] 67)).cell_ 1 rfl
        have q_c2 := (hk.alloc (.cells #[.slice A' st.length c'] 67)).cell_ 2 rfl
        have q_c3 := (hk.alloc (.cells #[.slice A' st.length c'] 67)).cell_ 3 rfl
        have q_c4 := (hk.alloc (.cells #[.slice A' st.length c'] 67)).cell_ 4 rfl
        have q_c5 := (hk.alloc (.cells #[.slice A' st.length c'] 67)).cell_ 5 rfl
        go_wp2_with fail
        clear q_c0 q_c1 q_c2 q_c3 q_c4 q_c5
        clear c0 c1 c2 c3 c4 c5
        have hx := Blk.new W 67 #[.slice A' st.length c']
        replace hk := hk.alloc (.cells #[.slice A' st.length c'] 67)
        replace hD := hD.below ((Below.refl _ W).alloc (Nat.le_refl _) (.cells #[.slice A' st.length c'] 67))
        replace hdn := hdn.alloc (.cells #[.slice A' st.length c'] 67)
        replace hSl := (hSl.below ((Below.refl _ W).alloc (Nat.le_refl _) (.cells #[.slice A' st.length c'] 67))).more ((Below.refl _ W).alloc (Nat.le_refl _) (.cells #[.slice A' st.length c'] 67)).size
        replace hB := hB.alloc hB.size (.cells #[.slice A' st.length c'] 67)
        generalize W.alloc (.cells #[.slice A' st.length c'] 67) = W at *
        have c0 := hk.cell_ 0 rfl
        have c1 := hk.cell_ 1 rfl
        have c2 := hk.cell_ 2 rfl
        have c3 := hk.cell_ 3 rfl
        have c4 := hk.cell_ 4 rfl
        have c5 := hk.cell_ 5 rfl
        have x0 := hx.cell_ 0 rfl
        clear hc
        have dnj := hdn.cell_ j (ints_get (hPD.dn j st l HX.out.1 HX.out.2))
        by_cases hfull : l.length = st.length
        · have hbq : ((l.length : Int) == (st.length : Int)) = true := by simp; omega
          have HC : Hid (candT p S.last st l = none) := by show _ = _; unfold candT; rw [List.getElem?_eq_none (by omega)]
          have HFULL := hide hfull
          clear hfull
          go_wp2_with fail
          refine wp_region_quiet (C := fun w' => ∃ u : Since W, w' = u.w) (by kernel_rfl) (by kernel_rfl) (Since.start W) ?_
          dsimp only
          have y_c0 := Since.cell c0
          have y_c1 := Since.cell c1
          have y_c2 := Since.cell c2
          have y_c3 := Since.cell c3
          have y_c4 := Since.cell c4
          have y_c5 := Since.cell c5
          have y_x0 := Since.cell x0
          have y_dnj := Since.cell dnj
          clear c0 c1 c2 c3 c4 c5 x0
          repeat (go_big_quiet_step ((fail)))
          refine wpQuiet_nil ?_
          rintro W ⟨⟨_, hb⟩, rfl⟩
          try dsimp only at hb ⊢
          replace dnj : W.cell? _ = _ := y_dnj ⟨W, hb⟩
          clear y_c0 y_c1 y_c2 y_c3 y_c4 y_c5 y_x0 y_dnj
          replace hk := hk.below hb hk.lt
          replace hD := hD.below hb
          replace hdn := hdn.below hb hdn.lt
          replace hSl := (hSl.below hb).more hb.size
          replace hx := hx.below hb hx.lt
          replace hB := hB.trans (hb.mono hB.size)
          clear hb
          have c0 := hk.cell_ 0 rfl
          have c1 := hk.cell_ 1 rfl
          have c2 := hk.cell_ 2 rfl
          have c3 := hk.cell_ 3 rfl
          have c4 := hk.cell_ 4 rfl
          have c5 := hk.cell_ 5 rfl
          have x0 := hx.cell_ 0 rfl
          go_wp2_with fail
          go_roundw
          case rel => exact ⟨j + 1, acc, rfl, rfl, by go_num, by omega, (by show _ = _; rw [HS.out, HDR.out, HC.out]; rfl), hAc, hk, hD, hdn, hB⟩
          case measure => simp [intOf]; omega
        · have hbq : ((l.length : Int) == (st.length : Int)) = false := by simp; omega
          obtain ⟨x, hxx⟩ : ∃ x, st[l.length]? = some x := ⟨_, List.getElem?_eq_getElem (by omega)⟩
          obtain ⟨b2, off2, hA2, hb2, d0, d1, d2, d3⟩ := hSl.at4_ hxx
          obtain ⟨t0, hcd⟩ : ∃ t0, candT p S.last st l = some t0 := by unfold candT; rw [hxx]; exact ⟨_, rfl⟩
          obtain ⟨x', hx1, ht1, ht2, ht3⟩ := candT_some hv hVS HX.out.1 HX.out.2 hcd
          obtain rfl : x' = x := by rw [hxx] at hx1; injection hx1 with hx1; exact hx1.symm
          obtain ⟨r1, r2⟩ := rdy_bd hv hVS HX.out.1 HX.out.2
          obtain ⟨_, _, x1, x2, _, _, _, _⟩ := (hv.steps j st HX.out.1).2 _ _ hxx
          have htl := total_le hv
          have hcl := hVS.cnt_le
          have hbd1 : bd (cnt S.pl) + 11440 ≤ 1000000000 := by unfold bd; omega
          have hbd2 : bd (cnt S.pl + 1) ≤ 1000000000 := by unfold bd; push_cast; omega
          have HEF := hide (show earlF p D j x' = t0 by rw [hPD.earl HX.out.1 HX.out.2]; exact ht1.symm)
          have HCD := hide hcd
          have HON := hide (hPD.on j st l HX.out.1 HX.out.2)
          have HLF := hide (fun b (hb : look D.last x'.m = some b) => (hVS.last _ b (by rw [← hPD.last]; exact hb)).1)
          have hli : (l.length : Int) < (st.length : Int) := by omega
          clear hxx hcd hx1 ht1
          subst hA2
          go_wp2_with fail
          refine wp_region_quiet (C := fun w' => ∃ u : Since W, w' = u.w) (by kernel_rfl) (by kernel_rfl) (Since.start W) ?_
          dsimp only
          have y_c0 := Since.cell c0
          have y_c1 := Since.cell c1
          have y_c2 := Since.cell c2
          have y_c3 := Since.cell c3
          have y_c4 := Since.cell c4
          have y_c5 := Since.cell c5
          have y_x0 := Since.cell x0
          have y_dnj := Since.cell dnj
          have y_d0 := Since.cell d0
          have y_d1 := Since.cell d1
          have y_d2 := Since.cell d2
          have y_d3 := Since.cell d3
          clear c0 c1 c2 c3 c4 c5 x0
          repeat (go_big_quiet_step ((fail)))
          refine wpQuiet_nil ?_
          rintro W ⟨⟨_, hb⟩, rfl⟩
          try dsimp only at hb ⊢
          replace dnj : W.cell? _ = _ := y_dnj ⟨W, hb⟩
          replace d0 : W.cell? _ = _ := y_d0 ⟨W, hb⟩
          replace d1 : W.cell? _ = _ := y_d1 ⟨W, hb⟩
          replace d2 : W.cell? _ = _ := y_d2 ⟨W, hb⟩
          replace d3 : W.cell? _ = _ := y_d3 ⟨W, hb⟩
          clear y_c0 y_c1 y_c2 y_c3 y_c4 y_c5 y_x0 y_dnj y_d0 y_d1 y_d2 y_d3
          replace hk := hk.below hb hk.lt
          replace hD := hD.below hb
          replace hdn := hdn.below hb hdn.lt
          replace hSl := (hSl.below hb).more hb.size
          replace hx := hx.below hb hx.lt
          replace hB := hB.trans (hb.mono hB.size)
          clear hb
          have c0 := hk.cell_ 0 rfl
          have c1 := hk.cell_ 1 rfl
          have c2 := hk.cell_ 2 rfl
          have c3 := hk.cell_ 3 rfl
          have c4 := hk.cell_ 4 rfl
          have c5 := hk.cell_ 5 rfl
          have x0 := hx.cell_ 0 rfl
          have HSW := hS.on hB
          go_wp2_with fail
          refine wp_region_quiet (C := fun w' => ∃ u : Since W, w' = u.w) (by kernel_rfl) (by kernel_rfl) (Since.start W) ?_
          dsimp only
          have y_c0 := Since.cell c0
          have y_c1 := Since.cell c1
          have y_c2 := Since.cell c2
          have y_c3 := Since.cell c3
          have y_c4 := Since.cell c4
          have y_c5 := Since.cell c5
          have y_x0 := Since.cell x0
          have y_dnj := Since.cell dnj
          have y_d0 := Since.cell d0
          have y_d1 := Since.cell d1
          have y_d2 := Since.cell d2
          have y_d3 := Since.cell d3
          clear c0 c1 c2 c3 c4 c5 x0
          repeat (go_big_quiet_step ((go_at_call 61; exact Since.calls (earliest_is B0 g mb bo bp brs ⟨p, aH, cH, aS, cS, some ⟨b, off, none⟩, cJ⟩ D j x' _ t0 _ (HSW.on (Since.h _)) hv (hD.below (Since.h _)) HON.out r1 (by omega) HLF.out x1 x2 HEF.out))))
          refine wpQuiet_nil ?_
          rintro W ⟨⟨_, hb⟩, rfl⟩
          try dsimp only at hb ⊢
          replace dnj : W.cell? _ = _ := y_dnj ⟨W, hb⟩
          replace d0 : W.cell? _ = _ := y_d0 ⟨W, hb⟩
          replace d1 : W.cell? _ = _ := y_d1 ⟨W, hb⟩
          replace d2 : W.cell? _ = _ := y_d2 ⟨W, hb⟩
          replace d3 : W.cell? _ = _ := y_d3 ⟨W, hb⟩
          clear y_c0 y_c1 y_c2 y_c3 y_c4 y_c5 y_x0 y_dnj y_d0 y_d1 y_d2 y_d3
          replace hk := hk.below hb hk.lt
          replace hD := hD.below hb
          replace hdn := hdn.below hb hdn.lt
          replace hSl := (hSl.below hb).more hb.size
          replace hx := hx.below hb hx.lt
          replace hB := hB.trans (hb.mono hB.size)
          clear hb
          have c0 := hk.cell_ 0 rfl
          have c1 := hk.cell_ 1 rfl
          have c2 := hk.cell_ 2 rfl
          have c3 := hk.cell_ 3 rfl
          have c4 := hk.cell_ 4 rfl
          have c5 := hk.cell_ 5 rfl
          have x0 := hx.cell_ 0 rfl
          cases acc with
          | none =>
            have eb : accB (none : Option (Nat × Int)) = -1 := rfl
            have HUP : Hid (upd none j (candT p S.last st l) = some (j, t0)) := by show _ = _; rw [HCD.out]; rfl
            go_wp2_with fail
            go_roundw
            case rel => exact ⟨j + 1, some (j, t0), rfl, rfl, by go_num, by omega, (by show _ = _; rw [HS.out, HDR.out, HUP.out]), (fun b t h => by injection h with h; injection h with h1 h2; subst h1 h2; exact ⟨ht2, by omega, hlt⟩), hk, hD, hdn, hB⟩
            case measure => simp [intOf]; omega
          | some q =>
            obtain ⟨b0, w0⟩ := q
            obtain ⟨a1, a2, a3⟩ := hAc b0 w0 rfl
            have eb : accB (some (b0, w0)) = (b0 : Int) := rfl
            have et : accT (some (b0, w0)) = w0 := rfl
            have eb2 : ¬ (b0 : Int) < 0 := by omega
            have eb3 : decide ((b0 : Int) < 0) = false := decide_eq_false eb2
            by_cases htw : t0 < w0
            · have htw2 : decide (t0 < w0) = true := decide_eq_true htw
              have HUP : Hid (upd (some (b0, w0)) j (candT p S.last st l) = some (j, t0)) := by show _ = _; rw [HCD.out]; unfold upd; simp [htw]
              go_wp2_with fail
              go_roundw
              case rel => exact ⟨j + 1, some (j, t0), rfl, rfl, by go_num, by omega, (by show _ = _; rw [HS.out, HDR.out, HUP.out]), (fun b t h => by injection h with h; injection h with h1 h2; subst h1 h2; exact ⟨ht2, by omega, hlt⟩), hk, hD, hdn, hB⟩
              case measure => simp [intOf]; omega
            · have htw2 : decide (t0 < w0) = false := decide_eq_false htw
              have HUP : Hid (upd (some (b0, w0)) j (candT p S.last st l) = some (b0, w0)) := by show _ = _; rw [HCD.out]; unfold upd; simp [htw]
              go_wp2_with fail
              go_roundw
              case rel => exact ⟨j + 1, some (b0, w0), rfl, rfl, by go_num, by omega, (by show _ = _; rw [HS.out, HDR.out, HUP.out]), hAc, hk, hD, hdn, hB⟩
              case measure => simp [intOf]; omega
      · obtain rfl : j = p.jobs.length := by omega
        have HBF : Hid (bestF p S = acc) := by show _ = _; rw [HS.out, nomore]; simp [bestFrom]
        cases acc with
        | none =>
          have eb : accB (none : Option (Nat × Int)) = -1 := rfl
          have hfin : dispF p = D.plan := by unfold dispF; rw [← HIT.out, iterS_none HBF.out]; exact (hPD.done hVS HBF.out).symm
          have HFIN := hide hfin
          clear hfin
          have g8 := hD.blk.cell_ 8 rfl
          go_wp2_with fail
          go_ret2
          exact ⟨some ⟨bp, 0, none⟩, D.plan.length, by rw [HFIN.out]; rfl, hB, by rw [HFIN.out]; exact hD.plan_⟩
        | some q =>
          obtain ⟨b0, t0⟩ := q
          obtain ⟨st, l, x, h1, h2, h3, h4, h5, h6, h7⟩ := best_at hv hVS HBF.out
          clear h4
          obtain ⟨hVS2, hcn2⟩ := hVS.put_ hv HBF.out
          have htl := total_le hv
          have hcl := hVS.cnt_le
          have hbd2 : bd (cnt S.pl + 1) ≤ 1000000000 := by unfold bd; push_cast; omega
          have hjl := (List.getElem?_eq_some_iff.1 h1).1
          have hxl := (List.getElem?_eq_some_iff.1 h3).1
          have hs8 := (hv.steps b0 st h1).1
          have hrw := (hVS.row b0 st l h1 h2).1
          have hpp := hPD.pl b0 st l h1 h2
          have hfit : AtFit p ⟨b0, l.length, t0, x⟩ := by
            have hq := hVS2.last x.m ⟨b0, l.length, t0, x⟩ (by rw [putS_eq t0 h1 h2 h3]; show look (put _ _ _) _ = _; rw [look_put, if_pos rfl])
            exact hq.1
          have hPD2 := hPD.put_ t0 h1 h2 h3
          have dnb := hdn.cell_ b0 (ints_get (hPD.dn b0 st l h1 h2))
          have eb : accB (some (b0, t0)) = (b0 : Int) := rfl
          have et : accT (some (b0, t0)) = t0 := rfl
          have eb2 : ¬ (b0 : Int) < 0 := by omega
          have hbi : (b0 : Int) < (p.jobs.length : Int) := by omega
          have hdl := hPD.dnl
          have HPL := hide (show b0 < D.on.length by rw [hPD.onl]; exact hjl)
          have HH := hide (And.intro h1 (And.intro h2 (And.intro h3 hpp)))
          have HVC := hide hcn2
          have HDL := hide (show b0 < (ints dn).size by rw [ints_size, hdl]; exact hjl)
          have HIT2 : Hid (iterS p (gk - 1) (putS p S b0 t0) = iterS p (total p) (ds0 p)) := by
            show _ = _
            have := HCN.out
            rw [← HIT.out, show gk = (gk - 1) + 1 by omega, iterS_some HBF.out]; rfl
          have HCN2 : Hid (gk - 1 + cnt (putS p S b0 t0).pl = total p) := by show _ = _; have := HCN.out; rw [hcn2]; omega
          have hgk := hide (show gk - 1 < gk by have := HCN.out; omega)
          clear h1 h2 h3 hpp hcn2 hdl
          have c0 := hk.cell_ 0 rfl
          have c1 := hk.cell_ 1 rfl
          have c2 := hk.cell_ 2 rfl
          have c3 := hk.cell_ 3 rfl
          have c4 := hk.cell_ 4 rfl
          have c5 := hk.cell_ 5 rfl
          go_wp2_with fail
          refine (put_any B0 g mb bo bp brs ⟨p, aH, cH, aS, cS, aJ, cJ⟩ D b0 l.length t0 st x _ _ (hS.on hB) hD HH.out.1 HH.out.2.2.1 HH.out.2.2.2 (by simp; omega) HPL.out h5 (by omega) hfit (by show p.jobs.length ≤ _; omega) (by omega)).mono ?_
          rintro e W2 ⟨rfl, hD2, hC⟩
          have hdn2 := hdn.chg hC HDB.out
          have hk2 := hk.chg hC (hD.notOf (.inl hB0))
          have hB2 := hB.trans (hC.to_below hB.size fun q hq => hD.notOf (.inl (by omega)))
          clear hD hdn hk hB hC dnb c0 c1 c2 c3 c4 c5
          have dnb := hdn2.cell_ b0 (ints_get (hPD.dn b0 st l HH.out.1 HH.out.2.1))
          go_wp2_with (refine wpList_store_at rfl 3 _ _ rfl (.int .i64 ((l.length : Int) + 1)) hdn2 rfl rfl (by kernel_rfl) rfl HDL.out rfl ?_; intro W3 hdn3 hc3)
          rw [ints_set] at hdn3
          have hD3 := hD2.chg hc3 (fun q hq he => HDN.out q hq he)
          go_roundg (gk - 1)
          case measure => exact hgk.out
          case rel => exact ⟨putS p S b0 t0, _, _, HIT2, HCN2, hVS2, hPD2, hD3, hdn3, hk2.chg1 hc3 (by omega), hB2.trans (hc3.below1 hB2.size dbge)⟩
end Go.Proofs.Ytcpnfcnobnjhdaa
