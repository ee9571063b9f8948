/- Plans: shaped, list, and the small functions of steps with their starts: the walks. -/
import Derived.Test.YtcpnfcnobnjhdaaPlanP
import Derived.Test.YtcpnfcnobnjhdaaChains
namespace Go.Proofs.Ytcpnfcnobnjhdaa
open Go.RowKit
theorem plan_at {w : World} {B : Nat} {A : Option Addr} {pl : List (List Int)} {k : Nat} {l : List Int} (h : Plan w B A pl) (hk : pl[k]? = some l) :
    ∃ b off A' c', A = some ⟨b, off, none⟩ ∧ b < B ∧ w.cell? ⟨b, off + k, none⟩ = some (.slice A' l.length c') ∧ Slc intEnc 1 w B A' l := h k l hk
theorem int_at {w : World} {B : Nat} {A : Option Addr} {xs : List Int} {k : Nat} {x : Int} (h : Slc intEnc 1 w B A xs) (hk : xs[k]? = some x) :
    ∃ b off, A = some ⟨b, off, none⟩ ∧ b < B ∧ w.cell? ⟨b, off + k, none⟩ = some (.int .i64 x) := h.at1 hk rfl

/-- ContainsFunc(l, not within) -/
theorem shaped1_any (t : Int) (w : World) : Calls Try.prog 85 #[.int .i64 t] w fun e w' => e = .returned (.bool (!inB 0 t 100000000)) ∧ w = w' := by
  go_enter Try.func85, Try.ntmps85
  go_wp2_with fail
  refine (within_any _ _ _ _).mono ?_
  rintro e w' ⟨rfl, rfl⟩
  go_wp2_with fail
  go_ret
  exact ⟨rfl, rfl⟩
theorem indexInt_any (A : Option Addr) (c : Nat) (l : List Int) (w : World) (hlen : l.length ≤ 9223372036854775807) (hS : Slc intEnc 1 w w.heap.size A l) :
    Calls Try.prog 91 #[.slice A l.length c, .func (.func 85) #[] #[]] w (IxPost (!l.all fun t => inB 0 t 100000000) w) := by
  go_enter Try.func91, Try.ntmps91
  go_wp2
  go_loopw [8] (fun i wr => ∃ k : Nat, k ≤ l.length ∧ i = .int .i64 k ∧ (l.all fun t => inB 0 t 100000000) = (l.drop k).all (fun t => inB 0 t 100000000) ∧ Below w.heap.size w wr) (fun i _ => l.length - (intOf i).toNat)
  case atStart => exact ⟨0, Nat.zero_le _, rfl, rfl, Below.refl _ _⟩
  case round =>
    obtain ⟨k, hk, rfl, hs, hbel⟩ := hrel
    have HS := hide hs
    clear hs
    by_cases hlt : k < l.length
    · obtain ⟨x, b, off, hx, hA, hb, e0⟩ := ints_at' (hS.below hbel) hlt
      subst hA
      have HX := hide hx
      clear hx
      cases hok : inB 0 x 100000000
      all_goals
        go_wp2_with fail
        refine (shaped1_any x _).mono ?_
        rintro e w2 ⟨rfl, rfl⟩
        rw [hok]
        go_wp2
      · go_ret
        exact ⟨k, rfl, by rw [HS.out, all_drop HX.out, hok]; simp, hbel⟩
      · go_roundw
        case rel => exact ⟨k + 1, by omega, by go_num, by rw [HS.out, all_drop HX.out, hok]; rfl, hbel⟩
        case measure => simp [intOf]; omega
    · obtain rfl : k = l.length := by omega
      go_wp2
      go_ret
      exact ⟨-1, rfl, by rw [HS.out, nomore]; rfl, hbel⟩
theorem containsInt_any (A : Option Addr) (c : Nat) (l : List Int) (w : World) (hlen : l.length ≤ 9223372036854775807) (hS : Slc intEnc 1 w w.heap.size A l) :
    Calls Try.prog 84 #[.slice A l.length c, .func (.func 85) #[] #[]] w fun e w' => e = .returned (.bool (!l.all fun t => inB 0 t 100000000)) ∧ Below w.heap.size w w' := by
  go_enter Try.func84, Try.ntmps84
  go_wp2_with fail
  refine (indexInt_any A c l _ hlen hS).mono ?_
  rintro e w2 ⟨r, rfl, hr, hb2⟩
  have HR := hide hr
  clear hr
  go_wp2
  go_ret
  exact ⟨ret_bool HR.out, hb2⟩

/-- no slice is longer than a slice can be -/
structure PFits (pl : List (List Int)) : Prop where
  h1 : pl.length ≤ 9223372036854775807
  h2 : ∀ l ∈ pl, l.length ≤ 9223372036854775807
set_option maxRecDepth 100000 in
theorem shaped_any (s : Sh) (A : Option Addr) (c : Nat) (pl : List (List Int)) (w : World) (hS : ShAt w w.heap.size s) (hv : VShop s.p) (hP : Plan w w.heap.size A pl) (hf : PFits pl) :
    Calls Try.prog 69 #[.agg #[.int .i64 s.p.op, .int .i64 s.p.cl, .slice s.aH s.p.hol.length s.cH, .int .i64 s.p.mach, .slice s.aS s.p.setup.length s.cS, .slice s.aJ s.p.jobs.length s.cJ], .slice A pl.length c] w fun e w' => e = .returned (.bool (shapedB s.p pl)) ∧ Below w.heap.size w w' := by
  have hjn := hv.jobn
  have hf1 := hf.h1
  have HE : Hid (shapedB s.p pl = (decide (pl.length = s.p.jobs.length) && shapeL (pl.drop 0) (s.p.jobs.drop 0))) := rfl
  obtain ⟨p, aH, cH, aS, cS, aJ, cJ⟩ := s
  dsimp only at *
  have hk := Blk.new w 25 #[.int .i64 p.op, .int .i64 p.cl, .slice aH p.hol.length cH, .int .i64 p.mach, .slice aS p.setup.length cS, .slice aJ p.jobs.length cJ]
  have hB := (Below.refl w.heap.size w).alloc (Nat.le_refl _) (.cells #[.int .i64 p.op, .int .i64 p.cl, .slice aH p.hol.length cH, .int .i64 p.mach, .slice aS p.setup.length cS, .slice aJ p.jobs.length cJ] 25)
  by_cases hne : pl.length = p.jobs.length
  · have hneb : ((pl.length : Int) == (p.jobs.length : Int)) = true := by simp; omega
    have hneb2 : ((pl.length : Int) != (p.jobs.length : Int)) = false := by simp; omega
    have hne' : pl.length ≤ p.jobs.length ∧ p.jobs.length ≤ pl.length := by omega
    have HNE := hide hne
    clear hne
    go_enter Try.func69, Try.ntmps69
    go_wp2_with fail
    generalize w.alloc (.cells #[.int .i64 p.op, .int .i64 p.cl, .slice aH p.hol.length cH, .int .i64 p.mach, .slice aS p.setup.length cS, .slice aJ p.jobs.length cJ] 25) = W at *
    go_loopw [15] (fun x W => ∃ i : Nat, x = .int .i64 i ∧ i ≤ pl.length ∧ Hid (shapedB p pl = shapeL (pl.drop i) (p.jobs.drop i)) ∧ Blk W w.heap.size 25 #[.int .i64 p.op, .int .i64 p.cl, .slice aH p.hol.length cH, .int .i64 p.mach, .slice aS p.setup.length cS, .slice aJ p.jobs.length cJ] ∧ Below w.heap.size w W) (fun x _ => pl.length - (intOf x).toNat)
    case atStart => exact ⟨0, rfl, Nat.zero_le _, (by show _ = _; rw [HE.out, HNE.out]; simp), hk, hB⟩
    case round =>
      clear hk hB
      obtain ⟨W, rfl⟩ : ∃ W : World, W = wr := ⟨_, rfl⟩
      obtain ⟨i, rfl, hi, HS, hk, hB⟩ := hrel
      have c5 := hk.cell_ 5 rfl
      by_cases hlt : i < pl.length
      · obtain ⟨l, hl⟩ : ∃ l, pl[i]? = some l := ⟨_, List.getElem?_eq_getElem hlt⟩
        obtain ⟨st, hst⟩ : ∃ st, p.jobs[i]? = some st := ⟨_, List.getElem?_eq_getElem (by omega)⟩
        have hll := hf.h2 l (List.mem_of_getElem? hl)
        have hsl := (hv.steps i st hst).1
        obtain ⟨b, off, A', c', rfl, hb0, hc, hSl⟩ := plan_at (hP.on hB) hl
        obtain ⟨b2, off2, A2, c2, hA2, hb2, hc2, _⟩ := job_at (hS.on hB).jobs hst
        dsimp only at hA2
        subst hA2
        have HST := hide (shapeL_step hl hst)
        clear hl hst
        by_cases hlen : l.length = st.length
        · have hlb : ((l.length : Int) == (st.length : Int)) = true := by simp; omega
          have hlb2 : ((l.length : Int) != (st.length : Int)) = false := by simp; omega
          have HLEN := hide hlen
          clear hlen
          go_wp2_with fail
          refine (containsInt_any A' c' l _ (by omega) hSl).mono ?_
          rintro e W ⟨rfl, hb⟩
          clear c5
          replace hk := hk.below hb hk.lt
          replace hB := hB.trans (hb.mono hB.size)
          clear hb
          have c5 := hk.cell_ 5 rfl
          cases hall : l.all fun t => inB 0 t 100000000
          · go_wp2_with fail
            go_ret
            exact ⟨ret_bool (by rw [HS.out, HST.out, hall, HLEN.out]; simp), hB⟩
          · go_wp2_with fail
            go_roundw
            case rel => exact ⟨i + 1, by go_num, by omega, (by show _ = _; rw [HS.out, HST.out, hall, HLEN.out]; simp), hk, hB⟩
            case measure => simp [intOf]; omega
        · have hlb : ((l.length : Int) == (st.length : Int)) = false := by simp; omega
          have hlb2 : ((l.length : Int) != (st.length : Int)) = true := by simp; omega
          have HLEN := hide hlen
          clear hlen
          go_wp2_with fail
          go_ret
          exact ⟨ret_bool (by rw [HS.out, HST.out, decide_eq_false HLEN.out]; rfl), hB⟩
      · obtain rfl : i = pl.length := by omega
        go_wp2_with fail
        go_ret
        exact ⟨ret_bool (by rw [HS.out, nomore]; simp [shapeL]), hB⟩
  · have hneb : ((pl.length : Int) == (p.jobs.length : Int)) = false := by simp; omega
    have hneb2 : ((pl.length : Int) != (p.jobs.length : Int)) = true := by simp; omega
    have HNE := hide hne
    clear hne
    go_enter Try.func69, Try.ntmps69
    go_wp2_with fail
    go_ret
    exact ⟨ret_bool (by rw [HE.out, decide_eq_false HNE.out]; rfl), hB⟩

theorem end_any (a : At) (w : World) (h : -1000000000000 ≤ a.t ∧ a.t ≤ 1000000000000) (h2 : 0 ≤ a.x.mi ∧ a.x.mi ≤ 1000000) :
    Calls Try.prog 68 #[.agg #[.int .i64 a.j, .int .i64 a.k, .int .i64 a.t, .int .i64 a.x.m, .int .i64 a.x.mi, .int .i64 a.x.c, .int .i64 a.x.d]] w fun e w' => e = .returned (.int .i64 a.end_) ∧ Below w.heap.size w w' := by
  have hB := (Below.refl w.heap.size w).alloc (Nat.le_refl _) (.cells #[.int .i64 a.j, .int .i64 a.k, .int .i64 a.t, .int .i64 a.x.m, .int .i64 a.x.mi, .int .i64 a.x.c, .int .i64 a.x.d] 91)
  go_enter Try.func68, Try.ntmps68
  go_wp2_with fail
  go_ret
  exact ⟨rfl, hB⟩
theorem dry_any (a : At) (w : World) (h : -1000000000000 ≤ a.t ∧ a.t ≤ 1000000000000) (h2 : 0 ≤ a.x.mi ∧ a.x.mi ≤ 1000000) (h3 : 0 ≤ a.x.d ∧ a.x.d ≤ 1000000) :
    Calls Try.prog 78 #[.agg #[.int .i64 a.j, .int .i64 a.k, .int .i64 a.t, .int .i64 a.x.m, .int .i64 a.x.mi, .int .i64 a.x.c, .int .i64 a.x.d]] w fun e w' => e = .returned (.int .i64 a.dry) ∧ Below w.heap.size w w' := by
  have hk := Blk.new w 91 #[.int .i64 a.j, .int .i64 a.k, .int .i64 a.t, .int .i64 a.x.m, .int .i64 a.x.mi, .int .i64 a.x.c, .int .i64 a.x.d]
  have hB := (Below.refl w.heap.size w).alloc (Nat.le_refl _) (.cells #[.int .i64 a.j, .int .i64 a.k, .int .i64 a.t, .int .i64 a.x.m, .int .i64 a.x.mi, .int .i64 a.x.c, .int .i64 a.x.d] 91)
  go_enter Try.func78, Try.ntmps78
  go_wp2_with fail
  generalize w.alloc (.cells #[.int .i64 a.j, .int .i64 a.k, .int .i64 a.t, .int .i64 a.x.m, .int .i64 a.x.mi, .int .i64 a.x.c, .int .i64 a.x.d] 91) = W at *
  have c0 := hk.cell_ 0 rfl
  have c1 := hk.cell_ 1 rfl
  have c2 := hk.cell_ 2 rfl
  have c3 := hk.cell_ 3 rfl
  have c4 := hk.cell_ 4 rfl
  have c5 := hk.cell_ 5 rfl
  have c6 := hk.cell_ 6 rfl
  have e1 : IntKind.i64.wrap (a.end_ + a.x.d) = a.dry := by unfold At.end_ At.dry; exact IntWalk.i64_in _ (by omega)
  go_wp2_with fail
  refine wp_region_quiet (C := fun w' => ∃ u : Since W, w' = u.w) (by kernel_rfl) (by kernel_rfl) (Since.start W) ?_
  dsimp only
  have y_c0 := Since.cell c0
  have y_c1 := Since.cell c1
  have y_c2 := Since.cell c2
  have y_c3 := Since.cell c3
  have y_c4 := Since.cell c4
  have y_c5 := Since.cell c5
  have y_c6 := Since.cell c6
  clear c0 c1 c2 c3 c4 c5 c6
  repeat (go_big_quiet_step ((go_at_call 68; exact Since.calls (end_any a _ h h2))))
  refine wpQuiet_nil ?_
  rintro W ⟨⟨_, hb⟩, rfl⟩
  try dsimp only at hb ⊢
  clear y_c0 y_c1 y_c2 y_c3 y_c4 y_c5 y_c6
  replace hk := hk.below hb hk.lt
  replace hB := hB.trans (hb.mono hB.size)
  clear hb
  have c0 := hk.cell_ 0 rfl
  have c1 := hk.cell_ 1 rfl
  have c2 := hk.cell_ 2 rfl
  have c3 := hk.cell_ 3 rfl
  have c4 := hk.cell_ 4 rfl
  have c5 := hk.cell_ 5 rfl
  have c6 := hk.cell_ 6 rfl
  go_wp2_with fail
  go_ret
  exact ⟨rfl, hB⟩
/-- what is asked of a step with its start here -/
structure AtFit (p : Shop) (a : At) : Prop where
  t0 : 0 ≤ a.t
  t1 : a.t ≤ 1000000000
  mi0 : 0 ≤ a.x.mi
  mi1 : a.x.mi ≤ 1440
  d0 : 0 ≤ a.x.d
  d1 : a.x.d ≤ 10000
  m0 : 0 ≤ a.x.m
  m1 : a.x.m < p.mach
theorem AtOk.fit {p : Shop} (hv : VShop p) {pl : List (List Int)} {a : At} (h : AtOk p pl a) : AtFit p a := by
  have := hv.op0
  have := hv.cl
  have := h.mi0
  have := h.mi1
  have := h.t1
  exact ⟨h.t0, by omega, by omega, by omega, h.d0, h.d1, h.m0, h.m1⟩
theorem setup_get {p : Shop} (hv : VShop p) {m : Int} (h0 : 0 ≤ m) (h1 : m < p.mach) : p.setup[m.toNat]? = some (setupOf p m) ∧ 0 ≤ setupOf p m ∧ setupOf p m ≤ 1000 := by
  have hl := hv.setn
  have hlt : m.toNat < p.setup.length := by omega
  have h2 : p.setup[m.toNat]? = some (setupOf p m) := by unfold setupOf; rw [List.getD_eq_getElem?_getD, List.getElem?_eq_getElem hlt]; rfl
  exact ⟨h2, hv.setup _ _ h2⟩
set_option maxRecDepth 100000 in
theorem room_any (s : Sh) (b : At) (c : Int) (w : World) (hS : ShAt w w.heap.size s) (hv : VShop s.p) (hb : AtFit s.p b) :
    Calls Try.prog 77 #[.agg #[.int .i64 s.p.op, .int .i64 s.p.cl, .slice s.aH s.p.hol.length s.cH, .int .i64 s.p.mach, .slice s.aS s.p.setup.length s.cS, .slice s.aJ s.p.jobs.length s.cJ], .agg #[.int .i64 b.j, .int .i64 b.k, .int .i64 b.t, .int .i64 b.x.m, .int .i64 b.x.mi, .int .i64 b.x.c, .int .i64 b.x.d], .int .i64 c] w fun e w' => e = .returned (.int .i64 (roomF s.p b c)) ∧ Below w.heap.size w w' := by
  obtain ⟨t0, t1, mi0, mi1, d0, d1, m0, m1⟩ := hb
  obtain ⟨hsu, hs0, hs1⟩ := setup_get hv m0 m1
  obtain ⟨bs, offs, hA, hbs, hcs⟩ := int_at hS.setup hsu
  have hln : b.x.m.toNat < s.p.setup.length := (List.getElem?_eq_some_iff.1 hsu).1
  have HR : Hid (roomF s.p b c = if b.x.c = c then b.end_ else b.end_ + setupOf s.p b.x.m) := rfl
  obtain ⟨p, aH, cH, aS, cS, aJ, cJ⟩ := s
  dsimp only at *
  subst hA
  generalize setupOf p b.x.m = S at *
  have hln2 : b.x.m < (p.setup.length : Int) := by omega
  clear hsu
  have hk := Blk.new w 25 #[.int .i64 p.op, .int .i64 p.cl, .slice aH p.hol.length cH, .int .i64 p.mach, .slice (some ⟨bs, offs, none⟩) p.setup.length cS, .slice aJ p.jobs.length cJ]
  have hB := (Below.refl w.heap.size w).alloc (Nat.le_refl _) (.cells #[.int .i64 p.op, .int .i64 p.cl, .slice aH p.hol.length cH, .int .i64 p.mach, .slice (some ⟨bs, offs, none⟩) p.setup.length cS, .slice aJ p.jobs.length cJ] 25)
  have hsz_w : (w.alloc (.cells #[.int .i64 p.op, .int .i64 p.cl, .slice aH p.hol.length cH, .int .i64 p.mach, .slice (some ⟨bs, offs, none⟩) p.setup.length cS, .slice aJ p.jobs.length cJ] 25)).heap.size = w.heap.size + 1 := by simp
  by_cases hcc : b.x.c = c
  all_goals
    first | have hcb : (b.x.c == c) = true := by simpa using hcc | have hcb : (b.x.c == c) = false := by simpa using hcc
    have HCC := hide hcc
    clear hcc
    go_enter Try.func77, Try.ntmps77
    go_wp2_with fail
    generalize w.alloc (.cells #[.int .i64 p.op, .int .i64 p.cl, .slice aH p.hol.length cH, .int .i64 p.mach, .slice (some ⟨bs, offs, none⟩) p.setup.length cS, .slice aJ p.jobs.length cJ] 25) = W at *
    go_wp2_with fail
    have ha := Blk.new W 91 #[.int .i64 b.j, .int .i64 b.k, .int .i64 b.t, .int .i64 b.x.m, .int .i64 b.x.mi, .int .i64 b.x.c, .int .i64 b.x.d]
    replace hk := hk.alloc (.cells #[.int .i64 b.j, .int .i64 b.k, .int .i64 b.t, .int .i64 b.x.m, .int .i64 b.x.mi, .int .i64 b.x.c, .int .i64 b.x.d] 91)
    rw [hsz_w] at ha
    replace hB := hB.alloc hB.size (.cells #[.int .i64 b.j, .int .i64 b.k, .int .i64 b.t, .int .i64 b.x.m, .int .i64 b.x.mi, .int .i64 b.x.c, .int .i64 b.x.d] 91)
    generalize W.alloc (.cells #[.int .i64 b.j, .int .i64 b.k, .int .i64 b.t, .int .i64 b.x.m, .int .i64 b.x.mi, .int .i64 b.x.c, .int .i64 b.x.d] 91) = W at *
    have c0 := hk.cell_ 0 rfl
    have c1 := hk.cell_ 1 rfl
    have c2 := hk.cell_ 2 rfl
    have c3 := hk.cell_ 3 rfl
    have c4 := hk.cell_ 4 rfl
    have c5 := hk.cell_ 5 rfl
    have a0 := ha.cell_ 0 rfl
    have a1 := ha.cell_ 1 rfl
    have a2 := ha.cell_ 2 rfl
    have a3 := ha.cell_ 3 rfl
    have a4 := ha.cell_ 4 rfl
    have a5 := ha.cell_ 5 rfl
    have a6 := ha.cell_ 6 rfl
    clear hsz_w
    replace hcs := (hB.cell (p := ⟨bs, offs + b.x.m.toNat, none⟩) hbs).trans hcs
  · skip
    go_wp2_with fail
    refine (end_any b _ ⟨by omega, by omega⟩ ⟨mi0, by omega⟩).mono ?_
    rintro e W ⟨rfl, hb⟩
    clear c0 c1 c2 c3 c4 c5 a0 a1 a2 a3 a4 a5 a6
    replace hk := hk.below hb hk.lt
    replace ha := ha.below hb ha.lt
    replace hB := hB.trans (hb.mono hB.size)
    clear hb
    have c0 := hk.cell_ 0 rfl
    have c1 := hk.cell_ 1 rfl
    have c2 := hk.cell_ 2 rfl
    have c3 := hk.cell_ 3 rfl
    have c4 := hk.cell_ 4 rfl
    have c5 := hk.cell_ 5 rfl
    have a0 := ha.cell_ 0 rfl
    have a1 := ha.cell_ 1 rfl
    have a2 := ha.cell_ 2 rfl
    have a3 := ha.cell_ 3 rfl
    have a4 := ha.cell_ 4 rfl
    have a5 := ha.cell_ 5 rfl
    have a6 := ha.cell_ 6 rfl
    go_wp2_with fail
    go_ret
    exact ⟨ret_int (by rw [HR.out, if_pos HCC.out]), hB⟩
  · skip
    have e1 : IntKind.i64.wrap (b.end_ + S) = b.end_ + S := by unfold At.end_; exact IntWalk.i64_in _ (by omega)
    go_wp2_with fail
    refine wp_region_quiet (C := fun w' => ∃ u : Since W, w' = u.w) (by kernel_rfl) (by kernel_rfl) (Since.start W) ?_
    dsimp only
    have y_c0 := Since.cell c0
    have y_c1 := Since.cell c1
    have y_c2 := Since.cell c2
    have y_c3 := Since.cell c3
    have y_c4 := Since.cell c4
    have y_c5 := Since.cell c5
    have y_a0 := Since.cell a0
    have y_a1 := Since.cell a1
    have y_a2 := Since.cell a2
    have y_a3 := Since.cell a3
    have y_a4 := Since.cell a4
    have y_a5 := Since.cell a5
    have y_a6 := Since.cell a6
    have y_hcs := Since.cell hcs
    clear c0 c1 c2 c3 c4 c5 a0 a1 a2 a3 a4 a5 a6
    repeat (go_big_quiet_step ((go_at_call 68; exact Since.calls (end_any b _ ⟨by omega, by omega⟩ ⟨mi0, by omega⟩))))
    refine wpQuiet_nil ?_
    rintro W ⟨⟨_, hb⟩, rfl⟩
    try dsimp only at hb ⊢
    replace hcs : W.cell? _ = _ := y_hcs ⟨W, hb⟩
    clear y_c0 y_c1 y_c2 y_c3 y_c4 y_c5 y_a0 y_a1 y_a2 y_a3 y_a4 y_a5 y_a6 y_hcs
    replace hk := hk.below hb hk.lt
    replace ha := ha.below hb ha.lt
    replace hB := hB.trans (hb.mono hB.size)
    clear hb
    have c0 := hk.cell_ 0 rfl
    have c1 := hk.cell_ 1 rfl
    have c2 := hk.cell_ 2 rfl
    have c3 := hk.cell_ 3 rfl
    have c4 := hk.cell_ 4 rfl
    have c5 := hk.cell_ 5 rfl
    have a0 := ha.cell_ 0 rfl
    have a1 := ha.cell_ 1 rfl
    have a2 := ha.cell_ 2 rfl
    have a3 := ha.cell_ 3 rfl
    have a4 := ha.cell_ 4 rfl
    have a5 := ha.cell_ 5 rfl
    have a6 := ha.cell_ 6 rfl
    go_wp2_with fail
    go_ret
    exact ⟨ret_int (by rw [HR.out, if_neg HCC.out]), hB⟩

set_option maxRecDepth 100000 in
theorem together_any (s : Sh) (a b : At) (w : World) (hS : ShAt w w.heap.size s) (hv : VShop s.p) (hfa : AtFit s.p a) (hfb : AtFit s.p b) :
    Calls Try.prog 81 #[.agg #[.int .i64 s.p.op, .int .i64 s.p.cl, .slice s.aH s.p.hol.length s.cH, .int .i64 s.p.mach, .slice s.aS s.p.setup.length s.cS, .slice s.aJ s.p.jobs.length s.cJ], .agg #[.int .i64 a.j, .int .i64 a.k, .int .i64 a.t, .int .i64 a.x.m, .int .i64 a.x.mi, .int .i64 a.x.c, .int .i64 a.x.d], .agg #[.int .i64 b.j, .int .i64 b.k, .int .i64 b.t, .int .i64 b.x.m, .int .i64 b.x.mi, .int .i64 b.x.c, .int .i64 b.x.d]] w fun e w' => e = .returned (.bool (togB s.p a b)) ∧ Below w.heap.size w w' := by
  have HR : Hid (togB s.p a b = (!decide (a.x.m = b.x.m) || decide (roomF s.p a b.x.c ≤ b.t) || decide (roomF s.p b a.x.c ≤ a.t))) := rfl
  have HFA := hide hfa
  have HFB := hide hfb
  clear hfa hfb
  have hk := Blk.new w 25 #[.int .i64 s.p.op, .int .i64 s.p.cl, .slice s.aH s.p.hol.length s.cH, .int .i64 s.p.mach, .slice s.aS s.p.setup.length s.cS, .slice s.aJ s.p.jobs.length s.cJ]
  have hB := (Below.refl w.heap.size w).alloc (Nat.le_refl _) (.cells #[.int .i64 s.p.op, .int .i64 s.p.cl, .slice s.aH s.p.hol.length s.cH, .int .i64 s.p.mach, .slice s.aS s.p.setup.length s.cS, .slice s.aJ s.p.jobs.length s.cJ] 25)
  have hsz_w : (w.alloc (.cells #[.int .i64 s.p.op, .int .i64 s.p.cl, .slice s.aH s.p.hol.length s.cH, .int .i64 s.p.mach, .slice s.aS s.p.setup.length s.cS, .slice s.aJ s.p.jobs.length s.cJ] 25)).heap.size = w.heap.size + 1 := by simp
  go_enter Try.func81, Try.ntmps81
  go_wp2_with fail
  generalize w.alloc (.cells #[.int .i64 s.p.op, .int .i64 s.p.cl, .slice s.aH s.p.hol.length s.cH, .int .i64 s.p.mach, .slice s.aS s.p.setup.length s.cS, .slice s.aJ s.p.jobs.length s.cJ] 25) = W at *
  go_wp2_with fail
  have ha := Blk.new W 91 #[.int .i64 a.j, .int .i64 a.k, .int .i64 a.t, .int .i64 a.x.m, .int .i64 a.x.mi, .int .i64 a.x.c, .int .i64 a.x.d]
  replace hk := hk.alloc (.cells #[.int .i64 a.j, .int .i64 a.k, .int .i64 a.t, .int .i64 a.x.m, .int .i64 a.x.mi, .int .i64 a.x.c, .int .i64 a.x.d] 91)
  have hsz_2 := (show (W.alloc (.cells #[.int .i64 a.j, .int .i64 a.k, .int .i64 a.t, .int .i64 a.x.m, .int .i64 a.x.mi, .int .i64 a.x.c, .int .i64 a.x.d] 91)).heap.size = W.heap.size + 1 by simp)
  rw [hsz_w] at hsz_2
  rw [hsz_w] at ha
  replace hB := hB.alloc hB.size (.cells #[.int .i64 a.j, .int .i64 a.k, .int .i64 a.t, .int .i64 a.x.m, .int .i64 a.x.mi, .int .i64 a.x.c, .int .i64 a.x.d] 91)
  generalize W.alloc (.cells #[.int .i64 a.j, .int .i64 a.k, .int .i64 a.t, .int .i64 a.x.m, .int .i64 a.x.mi, .int .i64 a.x.c, .int .i64 a.x.d] 91) = W at *
  have c0 := hk.cell_ 0 rfl
  have c1 := hk.cell_ 1 rfl
  have c2 := hk.cell_ 2 rfl
  have c3 := hk.cell_ 3 rfl
  have c4 := hk.cell_ 4 rfl
  have c5 := hk.cell_ 5 rfl
  have a0 := ha.cell_ 0 rfl
  have a1 := ha.cell_ 1 rfl
  have a2 := ha.cell_ 2 rfl
  have a3 := ha.cell_ 3 rfl
  have a4 := ha.cell_ 4 rfl
  have a5 := ha.cell_ 5 rfl
  have a6 := ha.cell_ 6 rfl
  have q_c0 := (hk.alloc (.cells #[.int .i64 b.j, .int .i64 b.k, .int .i64 b.t, .int .i64 b.x.m, .int .i64 b.x.mi, .int .i64 b.x.c, .int .i64 b.x.d] 91)).cell_ 0 rfl
  have q_c1 := (hk.alloc (.cells #[.int .i64 b.j, .int .i64 b.k, .int .i64 b.t, .int .i64 b.x.m, .int .i64 b.x.mi, .int .i64 b.x.c, .int .i64 b.x.d] 91)).cell_ 1 rfl
  have q_c2 := (hk.alloc (.cells #[.int .i64 b.j, .int .i64 b.k, .int .i64 b.t, .int .i64 b.x.m, .int .i64 b.x.mi, .int .i64 b.x.c, .int .i64 b.x.d] 91)).cell_ 2 rfl
  have q_c3 := (hk.alloc (.cells #[.int .i64 b.j, .int .i64 b.k, .int .i64 b.t, .int .i64 b.x.m, .int .i64 b.x.mi, .int .i64 b.x.c, .int .i64 b.x.d] 91)).cell_ 3 rfl
  have q_c4 := (hk.alloc (.cells #[.int .i64 b.j, .int .i64 b.k, .int .i64 b.t, .int .i64 b.x.m, .int .i64 b.x.mi, .int .i64 b.x.c, .int .i64 b.x.d] 91)).cell_ 4 rfl
  have q_c5 := (hk.alloc (.cells #[.int .i64 b.j, .int .i64 b.k, .int .i64 b.t, .int .i64 b.x.m, .int .i64 b.x.mi, .int .i64 b.x.c, .int .i64 b.x.d] 91)).cell_ 5 rfl
  have q_a0 := (ha.alloc (.cells #[.int .i64 b.j, .int .i64 b.k, .int .i64 b.t, .int .i64 b.x.m, .int .i64 b.x.mi, .int .i64 b.x.c, .int .i64 b.x.d] 91)).cell_ 0 rfl
  have q_a1 := (ha.alloc (.cells #[.int .i64 b.j, .int .i64 b.k, .int .i64 b.t, .int .i64 b.x.m, .int .i64 b.x.mi, .int .i64 b.x.c, .int .i64 b.x.d] 91)).cell_ 1 rfl
  have q_a2 := (ha.alloc (.cells #[.int .i64 b.j, .int .i64 b.k, .int .i64 b.t, .int .i64 b.x.m, .int .i64 b.x.mi, .int .i64 b.x.c, .int .i64 b.x.d] 91)).cell_ 2 rfl
  have q_a3 := (ha.alloc (.cells #[.int .i64 b.j, .int .i64 b.k, .int .i64 b.t, .int .i64 b.x.m, .int .i64 b.x.mi, .int .i64 b.x.c, .int .i64 b.x.d] 91)).cell_ 3 rfl
  have q_a4 := (ha.alloc (.cells #[.int .i64 b.j, .int .i64 b.k, .int .i64 b.t, .int .i64 b.x.m, .int .i64 b.x.mi, .int .i64 b.x.c, .int .i64 b.x.d] 91)).cell_ 4 rfl
  have q_a5 := (ha.alloc (.cells #[.int .i64 b.j, .int .i64 b.k, .int .i64 b.t, .int .i64 b.x.m, .int .i64 b.x.mi, .int .i64 b.x.c, .int .i64 b.x.d] 91)).cell_ 5 rfl
  have q_a6 := (ha.alloc (.cells #[.int .i64 b.j, .int .i64 b.k, .int .i64 b.t, .int .i64 b.x.m, .int .i64 b.x.mi, .int .i64 b.x.c, .int .i64 b.x.d] 91)).cell_ 6 rfl
  go_wp2_with fail
  clear q_c0 q_c1 q_c2 q_c3 q_c4 q_c5 q_a0 q_a1 q_a2 q_a3 q_a4 q_a5 q_a6
  clear c0 c1 c2 c3 c4 c5 a0 a1 a2 a3 a4 a5 a6
  have hy := Blk.new W 91 #[.int .i64 b.j, .int .i64 b.k, .int .i64 b.t, .int .i64 b.x.m, .int .i64 b.x.mi, .int .i64 b.x.c, .int .i64 b.x.d]
  replace hk := hk.alloc (.cells #[.int .i64 b.j, .int .i64 b.k, .int .i64 b.t, .int .i64 b.x.m, .int .i64 b.x.mi, .int .i64 b.x.c, .int .i64 b.x.d] 91)
  replace ha := ha.alloc (.cells #[.int .i64 b.j, .int .i64 b.k, .int .i64 b.t, .int .i64 b.x.m, .int .i64 b.x.mi, .int .i64 b.x.c, .int .i64 b.x.d] 91)
  rw [hsz_2] at hy
  replace hB := hB.alloc hB.size (.cells #[.int .i64 b.j, .int .i64 b.k, .int .i64 b.t, .int .i64 b.x.m, .int .i64 b.x.mi, .int .i64 b.x.c, .int .i64 b.x.d] 91)
  generalize W.alloc (.cells #[.int .i64 b.j, .int .i64 b.k, .int .i64 b.t, .int .i64 b.x.m, .int .i64 b.x.mi, .int .i64 b.x.c, .int .i64 b.x.d] 91) = W at *
  have c0 := hk.cell_ 0 rfl
  have c1 := hk.cell_ 1 rfl
  have c2 := hk.cell_ 2 rfl
  have c3 := hk.cell_ 3 rfl
  have c4 := hk.cell_ 4 rfl
  have c5 := hk.cell_ 5 rfl
  have a0 := ha.cell_ 0 rfl
  have a1 := ha.cell_ 1 rfl
  have a2 := ha.cell_ 2 rfl
  have a3 := ha.cell_ 3 rfl
  have a4 := ha.cell_ 4 rfl
  have a5 := ha.cell_ 5 rfl
  have a6 := ha.cell_ 6 rfl
  have b0 := hy.cell_ 0 rfl
  have b1 := hy.cell_ 1 rfl
  have b2 := hy.cell_ 2 rfl
  have b3 := hy.cell_ 3 rfl
  have b4 := hy.cell_ 4 rfl
  have b5 := hy.cell_ 5 rfl
  have b6 := hy.cell_ 6 rfl
  clear hsz_w hsz_2
  by_cases hm : a.x.m = b.x.m
  · have hm1 : (a.x.m != b.x.m) = false := by simpa using hm
    have hm2 : (a.x.m == b.x.m) = true := by simpa using hm
    have HM := hide hm
    clear hm
    by_cases hr : roomF s.p a b.x.c ≤ b.t
    · have hr1 : decide (roomF s.p a b.x.c ≤ b.t) = true := decide_eq_true hr
      have HSW := hS.on hB
      go_wp2_with fail
      refine wp_region_quiet (C := fun w' => ∃ u : Since W, w' = u.w) (by kernel_rfl) (by kernel_rfl) (Since.start W) ?_
      dsimp only
      have y_c0 := Since.cell c0
      have y_c1 := Since.cell c1
      have y_c2 := Since.cell c2
      have y_c3 := Since.cell c3
      have y_c4 := Since.cell c4
      have y_c5 := Since.cell c5
      have y_a0 := Since.cell a0
      have y_a1 := Since.cell a1
      have y_a2 := Since.cell a2
      have y_a3 := Since.cell a3
      have y_a4 := Since.cell a4
      have y_a5 := Since.cell a5
      have y_a6 := Since.cell a6
      have y_b0 := Since.cell b0
      have y_b1 := Since.cell b1
      have y_b2 := Since.cell b2
      have y_b3 := Since.cell b3
      have y_b4 := Since.cell b4
      have y_b5 := Since.cell b5
      have y_b6 := Since.cell b6
      clear c0 c1 c2 c3 c4 c5 a0 a1 a2 a3 a4 a5 a6 b0 b1 b2 b3 b4 b5 b6
      repeat (go_big_quiet_step ((go_at_call 77; exact Since.calls (room_any s _ _ _ (HSW.on (Since.h _)) hv (by first | exact HFA.out | exact HFB.out)))))
      refine wpQuiet_nil ?_
      rintro W ⟨⟨_, hb⟩, rfl⟩
      try dsimp only at hb ⊢
      clear y_c0 y_c1 y_c2 y_c3 y_c4 y_c5 y_a0 y_a1 y_a2 y_a3 y_a4 y_a5 y_a6 y_b0 y_b1 y_b2 y_b3 y_b4 y_b5 y_b6
      replace hk := hk.below hb hk.lt
      replace ha := ha.below hb ha.lt
      replace hy := hy.below hb hy.lt
      replace hB := hB.trans (hb.mono hB.size)
      clear hb
      have c0 := hk.cell_ 0 rfl
      have c1 := hk.cell_ 1 rfl
      have c2 := hk.cell_ 2 rfl
      have c3 := hk.cell_ 3 rfl
      have c4 := hk.cell_ 4 rfl
      have c5 := hk.cell_ 5 rfl
      have a0 := ha.cell_ 0 rfl
      have a1 := ha.cell_ 1 rfl
      have a2 := ha.cell_ 2 rfl
      have a3 := ha.cell_ 3 rfl
      have a4 := ha.cell_ 4 rfl
      have a5 := ha.cell_ 5 rfl
      have a6 := ha.cell_ 6 rfl
      have b0 := hy.cell_ 0 rfl
      have b1 := hy.cell_ 1 rfl
      have b2 := hy.cell_ 2 rfl
      have b3 := hy.cell_ 3 rfl
      have b4 := hy.cell_ 4 rfl
      have b5 := hy.cell_ 5 rfl
      have b6 := hy.cell_ 6 rfl
      go_wp2_with fail
      go_ret
      exact ⟨ret_bool (by rw [HR.out, decide_eq_true HM.out, decide_eq_true hr]; rfl), hB⟩
    · have hr1 : decide (roomF s.p a b.x.c ≤ b.t) = false := decide_eq_false hr
      have HSW := hS.on hB
      go_wp2_with fail
      refine wp_region_quiet (C := fun w' => ∃ u : Since W, w' = u.w) (by kernel_rfl) (by kernel_rfl) (Since.start W) ?_
      dsimp only
      have y_c0 := Since.cell c0
      have y_c1 := Since.cell c1
      have y_c2 := Since.cell c2
      have y_c3 := Since.cell c3
      have y_c4 := Since.cell c4
      have y_c5 := Since.cell c5
      have y_a0 := Since.cell a0
      have y_a1 := Since.cell a1
      have y_a2 := Since.cell a2
      have y_a3 := Since.cell a3
      have y_a4 := Since.cell a4
      have y_a5 := Since.cell a5
      have y_a6 := Since.cell a6
      have y_b0 := Since.cell b0
      have y_b1 := Since.cell b1
      have y_b2 := Since.cell b2
      have y_b3 := Since.cell b3
      have y_b4 := Since.cell b4
      have y_b5 := Since.cell b5
      have y_b6 := Since.cell b6
      clear c0 c1 c2 c3 c4 c5 a0 a1 a2 a3 a4 a5 a6 b0 b1 b2 b3 b4 b5 b6
      repeat (go_big_quiet_step ((go_at_call 77; exact Since.calls (room_any s _ _ _ (HSW.on (Since.h _)) hv (by first | exact HFA.out | exact HFB.out)))))
      refine wpQuiet_nil ?_
      rintro W ⟨⟨_, hb⟩, rfl⟩
      try dsimp only at hb ⊢
      clear y_c0 y_c1 y_c2 y_c3 y_c4 y_c5 y_a0 y_a1 y_a2 y_a3 y_a4 y_a5 y_a6 y_b0 y_b1 y_b2 y_b3 y_b4 y_b5 y_b6
      replace hk := hk.below hb hk.lt
      replace ha := ha.below hb ha.lt
      replace hy := hy.below hb hy.lt
      replace hB := hB.trans (hb.mono hB.size)
      clear hb
      have c0 := hk.cell_ 0 rfl
      have c1 := hk.cell_ 1 rfl
      have c2 := hk.cell_ 2 rfl
      have c3 := hk.cell_ 3 rfl
      have c4 := hk.cell_ 4 rfl
      have c5 := hk.cell_ 5 rfl
      have a0 := ha.cell_ 0 rfl
      have a1 := ha.cell_ 1 rfl
      have a2 := ha.cell_ 2 rfl
      have a3 := ha.cell_ 3 rfl
      have a4 := ha.cell_ 4 rfl
      have a5 := ha.cell_ 5 rfl
      have a6 := ha.cell_ 6 rfl
      have b0 := hy.cell_ 0 rfl
      have b1 := hy.cell_ 1 rfl
      have b2 := hy.cell_ 2 rfl
      have b3 := hy.cell_ 3 rfl
      have b4 := hy.cell_ 4 rfl
      have b5 := hy.cell_ 5 rfl
      have b6 := hy.cell_ 6 rfl
      go_wp2_with fail
      go_ret
      exact ⟨ret_bool (by rw [HR.out, decide_eq_true HM.out, decide_eq_false (show ¬ roomF s.p a b.x.c ≤ b.t by omega)]; rfl), hB⟩
  · have hm1 : (a.x.m != b.x.m) = true := by simpa using hm
    have hm2 : (a.x.m == b.x.m) = false := by simpa using hm
    have HM := hide hm
    clear hm
    have HSW := hS.on hB
    go_wp2_with fail
    refine wp_region_quiet (C := fun w' => ∃ u : Since W, w' = u.w) (by kernel_rfl) (by kernel_rfl) (Since.start W) ?_
    dsimp only
    have y_c0 := Since.cell c0
    have y_c1 := Since.cell c1
    have y_c2 := Since.cell c2
    have y_c3 := Since.cell c3
    have y_c4 := Since.cell c4
    have y_c5 := Since.cell c5
    have y_a0 := Since.cell a0
    have y_a1 := Since.cell a1
    have y_a2 := Since.cell a2
    have y_a3 := Since.cell a3
    have y_a4 := Since.cell a4
    have y_a5 := Since.cell a5
    have y_a6 := Since.cell a6
    have y_b0 := Since.cell b0
    have y_b1 := Since.cell b1
    have y_b2 := Since.cell b2
    have y_b3 := Since.cell b3
    have y_b4 := Since.cell b4
    have y_b5 := Since.cell b5
    have y_b6 := Since.cell b6
    clear c0 c1 c2 c3 c4 c5 a0 a1 a2 a3 a4 a5 a6 b0 b1 b2 b3 b4 b5 b6
    repeat (go_big_quiet_step ((go_at_call 77; exact Since.calls (room_any s _ _ _ (HSW.on (Since.h _)) hv (by first | exact HFA.out | exact HFB.out)))))
    refine wpQuiet_nil ?_
    rintro W ⟨⟨_, hb⟩, rfl⟩
    try dsimp only at hb ⊢
    clear y_c0 y_c1 y_c2 y_c3 y_c4 y_c5 y_a0 y_a1 y_a2 y_a3 y_a4 y_a5 y_a6 y_b0 y_b1 y_b2 y_b3 y_b4 y_b5 y_b6
    replace hk := hk.below hb hk.lt
    replace ha := ha.below hb ha.lt
    replace hy := hy.below hb hy.lt
    replace hB := hB.trans (hb.mono hB.size)
    clear hb
    have c0 := hk.cell_ 0 rfl
    have c1 := hk.cell_ 1 rfl
    have c2 := hk.cell_ 2 rfl
    have c3 := hk.cell_ 3 rfl
    have c4 := hk.cell_ 4 rfl
    have c5 := hk.cell_ 5 rfl
    have a0 := ha.cell_ 0 rfl
    have a1 := ha.cell_ 1 rfl
    have a2 := ha.cell_ 2 rfl
    have a3 := ha.cell_ 3 rfl
    have a4 := ha.cell_ 4 rfl
    have a5 := ha.cell_ 5 rfl
    have a6 := ha.cell_ 6 rfl
    have b0 := hy.cell_ 0 rfl
    have b1 := hy.cell_ 1 rfl
    have b2 := hy.cell_ 2 rfl
    have b3 := hy.cell_ 3 rfl
    have b4 := hy.cell_ 4 rfl
    have b5 := hy.cell_ 5 rfl
    have b6 := hy.cell_ 6 rfl
    go_wp2_with fail
    go_ret
    exact ⟨ret_bool (by rw [HR.out, decide_eq_false HM.out]; rfl), hB⟩

theorem inShift_any (s : Sh) (t m : Int) (w : World) (hS : ShAt w w.heap.size s) (hv : VShop s.p) (ht : 0 ≤ t) (ht' : t ≤ 1000000000000) (hm : 0 ≤ m) (hm' : m ≤ 1000000000) :
    Calls Try.prog 80 #[.agg #[.int .i64 s.p.op, .int .i64 s.p.cl, .slice s.aH s.p.hol.length s.cH, .int .i64 s.p.mach, .slice s.aS s.p.setup.length s.cS, .slice s.aJ s.p.jobs.length s.cJ], .int .i64 t, .int .i64 m] w fun e w' => e = .returned (.bool (shiftB s.p t m)) ∧ Below w.heap.size w w' := by
  have HE : Hid (shiftB s.p t m = (!hasB s.p.hol (t / 1440) && decide (s.p.op ≤ t % 1440) && decide (t % 1440 + m ≤ s.p.cl))) := rfl
  have hk := Blk.new w 25 #[.int .i64 s.p.op, .int .i64 s.p.cl, .slice s.aH s.p.hol.length s.cH, .int .i64 s.p.mach, .slice s.aS s.p.setup.length s.cS, .slice s.aJ s.p.jobs.length s.cJ]
  have hB := (Below.refl w.heap.size w).alloc (Nat.le_refl _) (.cells #[.int .i64 s.p.op, .int .i64 s.p.cl, .slice s.aH s.p.hol.length s.cH, .int .i64 s.p.mach, .slice s.aS s.p.setup.length s.cS, .slice s.aJ s.p.jobs.length s.cJ] 25)
  go_enter Try.func80, Try.ntmps80
  go_wp2_with fail
  generalize w.alloc (.cells #[.int .i64 s.p.op, .int .i64 s.p.cl, .slice s.aH s.p.hol.length s.cH, .int .i64 s.p.mach, .slice s.aS s.p.setup.length s.cS, .slice s.aJ s.p.jobs.length s.cJ] 25) = W at *
  have c0 := hk.cell_ 0 rfl
  have c1 := hk.cell_ 1 rfl
  have c2 := hk.cell_ 2 rfl
  have c3 := hk.cell_ 3 rfl
  have c4 := hk.cell_ 4 rfl
  have c5 := hk.cell_ 5 rfl
  go_wp2_with fail
  refine (free_any s _ _ (hS.on hB) hv).mono ?_
  rintro e W ⟨rfl, hb⟩
  clear c0 c1 c2 c3 c4 c5
  replace hk := hk.below hb hk.lt
  replace hB := hB.trans (hb.mono hB.size)
  clear hb
  have c0 := hk.cell_ 0 rfl
  have c1 := hk.cell_ 1 rfl
  have c2 := hk.cell_ 2 rfl
  have c3 := hk.cell_ 3 rfl
  have c4 := hk.cell_ 4 rfl
  have c5 := hk.cell_ 5 rfl
  cases hh : hasB s.p.hol (t / 1440)
  · by_cases h1 : s.p.op ≤ t % 1440
    · go_wp2_with fail
      go_ret
      exact ⟨ret_bool (by rw [HE.out, hh, decide_eq_true h1]; simp), hB⟩
    · go_wp2_with fail
      go_ret
      exact ⟨ret_bool (by rw [HE.out, hh, decide_eq_false (show ¬ s.p.op ≤ t % 1440 by omega)]; simp), hB⟩
  · go_wp2_with fail
    go_ret
    exact ⟨ret_bool (by rw [HE.out, hh]; simp), hB⟩

theorem et_at : ElemT Try.prog 87 91 7 := elemT_mk Try.underlying87 (z := .agg #[.int .i64 0, .int .i64 0, .int .i64 0, .int .i64 0, .int .i64 0, .int .i64 0, .int .i64 0]) (bytes := 56) (by kernel_rfl) rfl (by omega) (by omega)
set_option maxRecDepth 100000 in
theorem list_any (s : Sh) (A : Option Addr) (c : Nat) (pl : List (List Int)) (w : World) (hS : ShAt w w.heap.size s) (hv : VShop s.p) (hP : Plan w w.heap.size A pl) (hp : VPlan s.p pl) :
    Calls Try.prog 79 #[.agg #[.int .i64 s.p.op, .int .i64 s.p.cl, .slice s.aH s.p.hol.length s.cH, .int .i64 s.p.mach, .slice s.aS s.p.setup.length s.cS, .slice s.aJ s.p.jobs.length s.cJ], .slice A pl.length c] w fun e w' => ∃ v, e = .returned v ∧ Below w.heap.size w w' ∧ Own w' w.heap.size 91 7 At.enc v (ats s.p pl) := by
  have hjn := hv.jobn
  have hen := ents_len hv
  have hpn := hp.len
  have hpn' : pl.length ≤ s.p.jobs.length ∧ s.p.jobs.length ≤ pl.length := by omega
  clear hpn
  have hk := Blk.new w 25 #[.int .i64 s.p.op, .int .i64 s.p.cl, .slice s.aH s.p.hol.length s.cH, .int .i64 s.p.mach, .slice s.aS s.p.setup.length s.cS, .slice s.aJ s.p.jobs.length s.cJ]
  have hB := (Below.refl w.heap.size w).alloc (Nat.le_refl _) (.cells #[.int .i64 s.p.op, .int .i64 s.p.cl, .slice s.aH s.p.hol.length s.cH, .int .i64 s.p.mach, .slice s.aS s.p.setup.length s.cS, .slice s.aJ s.p.jobs.length s.cJ] 25)
  have hz : w.heap.size + 1 ≤ (w.alloc (.cells #[.int .i64 s.p.op, .int .i64 s.p.cl, .slice s.aH s.p.hol.length s.cH, .int .i64 s.p.mach, .slice s.aS s.p.setup.length s.cS, .slice s.aJ s.p.jobs.length s.cJ] 25)).heap.size := by simp
  go_enter Try.func79, Try.ntmps79
  go_wp2_with fail
  generalize w.alloc (.cells #[.int .i64 s.p.op, .int .i64 s.p.cl, .slice s.aH s.p.hol.length s.cH, .int .i64 s.p.mach, .slice s.aS s.p.setup.length s.cS, .slice s.aJ s.p.jobs.length s.cJ] 25) = W at *
  have hO : Own W (w.heap.size + 1) 91 7 At.enc (.slice none 0 0) [] := Own.nil_
  go_loopw [5, 12] (fun v y W => ∃ (j : Nat) (es : List Ent), y = .int .i64 j ∧ j ≤ pl.length ∧ Hid (es ++ entsFrom j (s.p.jobs.drop j) = ents s.p) ∧ Blk W w.heap.size 25 #[.int .i64 s.p.op, .int .i64 s.p.cl, .slice s.aH s.p.hol.length s.cH, .int .i64 s.p.mach, .slice s.aS s.p.setup.length s.cS, .slice s.aJ s.p.jobs.length s.cJ] ∧ Own W (w.heap.size + 1) 91 7 At.enc v (es.map (mkAt pl)) ∧ w.heap.size + 1 ≤ W.heap.size ∧ Below w.heap.size w W) (fun v y _ => pl.length - (intOf y).toNat)
  case atStart => exact ⟨0, [], rfl, Nat.zero_le _, hide rfl, hk, hO, hz, hB⟩
  case round =>
    obtain ⟨W, rfl⟩ : ∃ W : World, W = wr := ⟨_, rfl⟩
    obtain ⟨j, es, rfl, hj, hes, hk, hO, hz, hB⟩ := hrel
    by_cases hlt : j < pl.length
    · obtain ⟨l, hl⟩ : ∃ l, pl[j]? = some l := ⟨_, List.getElem?_eq_getElem hlt⟩
      obtain ⟨st, hjl⟩ : ∃ st, s.p.jobs[j]? = some st := ⟨_, List.getElem?_eq_getElem (by omega)⟩
      have hll := (hv.steps j st hjl).1
      have hlen := (hp.at_ j l st hl hjl).1
      have hlen' : l.length ≤ st.length ∧ st.length ≤ l.length := by omega
      have HL := hide hl
      have HJ := hide hjl
      have HES := hide (show es ++ (stepsFrom j 0 (st.drop 0) ++ entsFrom (j + 1) (s.p.jobs.drop (j + 1))) = ents s.p by rw [← hes.out, entsFrom_drop hjl]; rfl)
      clear hes hlen
      obtain ⟨bp, offp, Ap, cp, hAp, hbp, hcp, hSlp⟩ := plan_at hP hl
      have hcpw := (hB.cell (p := ⟨bp, offp + j, none⟩) hbp).trans hcp
      subst hAp
      clear hl hjl
      go_wp2_with fail
      clear hcpw
      go_loopw [5, 19] (fun v z W => ∃ (k : Nat) (es : List Ent), z = .int .i64 k ∧ k ≤ l.length ∧ Hid (es ++ (stepsFrom j k (st.drop k) ++ entsFrom (j + 1) (s.p.jobs.drop (j + 1))) = ents s.p) ∧ Blk W w.heap.size 25 #[.int .i64 s.p.op, .int .i64 s.p.cl, .slice s.aH s.p.hol.length s.cH, .int .i64 s.p.mach, .slice s.aS s.p.setup.length s.cS, .slice s.aJ s.p.jobs.length s.cJ] ∧ Own W (w.heap.size + 1) 91 7 At.enc v (es.map (mkAt pl)) ∧ w.heap.size + 1 ≤ W.heap.size ∧ Below w.heap.size w W) (fun v z _ => l.length - (intOf z).toNat)
      case atStart => exact ⟨0, es, rfl, Nat.zero_le _, HES, hk, hO, hz, hB⟩
      case round =>
        clear HES
        clear hk hO hz hB
        obtain ⟨W, rfl⟩ : ∃ W : World, W = wr := ⟨_, rfl⟩
        obtain ⟨k, es, rfl, hk2, hes, hk, hO, hz, hB⟩ := hrel
        by_cases hlk : k < l.length
        · obtain ⟨t, ht⟩ : ∃ t, l[k]? = some t := ⟨_, List.getElem?_eq_getElem hlk⟩
          obtain ⟨x, hx⟩ : ∃ x, st[k]? = some x := ⟨_, List.getElem?_eq_getElem (by omega)⟩
          have HES := hide (show (es ++ [⟨j, k, x⟩]) ++ (stepsFrom j (k + 1) (st.drop (k + 1)) ++ entsFrom (j + 1) (s.p.jobs.drop (j + 1))) = ents s.p by rw [← hes.out, stepsFrom_drop hx]; simp)
          have hel : es.length + 1 ≤ 96 := by
            have := congrArg List.length HES.out
            simp at this; omega
          have HMK : Hid (mkAt pl ⟨j, k, x⟩ = ⟨j, k, t, x⟩) := by show mkAt _ _ = _; unfold mkAt; rw [planAt_eq HL.out ht]
          obtain ⟨bt, offt, hAt, hbt, hct⟩ := int_at (hSlp.below hB) ht
          obtain ⟨bj, offj, Aj, cj, hAj, hbj, hcj, hSlj⟩ := job_at hS.jobs HJ.out
          obtain ⟨bx, offx, hAx, hbx, d0, d1, d2, d3⟩ := step_at (hSlj.below hB) hx
          have hcjw := (hB.cell (p := ⟨bj, offj + j, none⟩) hbj).trans hcj
          have hxl : k < st.length := by omega
          have hjlt : j < s.p.jobs.length := by omega
          clear hes ht hx
          obtain ⟨p, aH, cH, aS, cS, aJ, cJ⟩ := s
          dsimp only at *
          subst hAt hAj hAx
          have c5 := hk.cell_ 5 rfl
          have hlm : (es.map (mkAt pl)).length = es.length := List.length_map ..
          go_wp2_with (at_builtin; refine wpList_app _ _ rfl rfl et_at hO rfl rfl (y := (⟨j, k, t, x⟩ : At)) rfl rfl rfl (by rw [hlm]; omega) (by omega) ?_; intro v' W hO' hb hgt; clear c5 hcjw d0 d1 d2 d3 hct; replace hk := hk.below hb (by omega); replace hB := hB.trans (hb.mono (by omega)))
          go_roundw
          case rel => exact ⟨k + 1, es ++ [⟨j, k, x⟩], by go_num, by omega, HES, hk, by rw [List.map_append, List.map_cons, List.map_nil, HMK.out]; exact hO', by omega, hB⟩
          case measure => simp [intOf]; omega
        · obtain rfl : k = l.length := by omega
          have HES := hide (show es ++ entsFrom (j + 1) (s.p.jobs.drop (j + 1)) = ents s.p by rw [← hes.out, List.drop_eq_nil_of_le hlen'.2]; rfl)
          clear hes
          go_wp2_with fail
          go_roundw
          case rel => exact ⟨j + 1, es, by go_num, by omega, HES, hk, hO, hz, hB⟩
          case measure => simp [intOf]; omega
    · obtain rfl : j = pl.length := by omega
      have he : es = ents s.p := by rw [← hes.out, List.drop_eq_nil_of_le hpn'.2]; simp [entsFrom]
      clear hes
      go_wp2_with fail
      go_ret
      exact ⟨_, rfl, hB, by rw [he] at hO; exact hO.mono_base (by omega)⟩
end Go.Proofs.Ytcpnfcnobnjhdaa
