/- Parts of the proofs of this seat: StabMInt. Each part says what it proves; no condition beyond those stated there. -/
import Derived.Test.YtpeokpnjnmgloaaM17

/- The library's stable sort of int: merging, and the whole. -/
namespace Go.Proofs.Ytpeokpnjnmgloaa
open Go Go.Sort Go.RowKit Go.Lib Go.Shelf Go.Proofs
namespace StabInt
variable {P : Program}
section
variable {β : Type} [Inhabited β] {enc : β → Value} {w : World} {blk off : Nat} {d : Array β}
theorem SW_holds (hH : Holds enc w blk off d) (hblk : blk < w.heap.size) (q : Nat) (r : Array β) (os : Array Obj) (hs : r.size = d.size) : Holds enc (SW enc w blk off q r os) blk off r :=
  holds_sw_c enc w blk off d r q os hH hblk hs
theorem SW_lt (hblk : blk < w.heap.size) (q : Nat) (r : Array β) (os : Array Obj) : blk < (SW enc w blk off q r os).heap.size :=
  Nat.lt_of_lt_of_le hblk (size_sw_c enc w blk off q r os)
theorem SW_start (hH : Holds enc w blk off d) : w = SW enc w blk off 0 d #[] := by unfold SW sortWorld; rw [grow_empty]; exact (putRow_self enc w blk off d hH).symm
theorem cmp_again {g : Nat} {cb : Array Value} {cf : β → β → Int} {size : Nat} (h : Cmp P g cb enc cf blk off size w) (hblk : blk < w.heap.size) (q : Nat) (r : Array β) (os : Array Obj) (hs : r.size = size) :
    Cmp P g cb enc cf blk off size (SW enc w blk off q r os) := by
  intro m os' dk hd x y
  have e : sortWorld enc (SW enc w blk off q r os) blk off m dk os' = sortWorld enc w blk off (q + m) dk (os ++ os') := SW_again enc w blk off q m r dk os os' hblk (by omega)
  rw [e]
  exact h (q + m) (os ++ os') dk hd x y
end
section
variable {α : Type} [Inhabited α] (L : Lay P) (enc0 : α → Value) (hk : OneCell enc0) (cf0 : α → α → Int)
/-- elements with their tags -/
def encT (enc0 : α → Value) (x : α × Nat) : Value := enc0 x.1
def cfT (cf0 : α → α → Int) (x y : α × Nat) : Int := cf0 x.1 y.1
def ltF (cf0 : α → α → Int) (x y : α) : Bool := decide (cf0 x y < 0)
theorem ltT_true {α : Type} {cf0 : α → α → Int} {x y : α × Nat} : ltT (ltF cf0) x y = true ↔ cfT cf0 x y < 0 := by simp [ltT, ltF, cfT]
theorem ltT_false {α : Type} {cf0 : α → α → Int} {x y : α × Nat} : ltT (ltF cf0) x y = false ↔ 0 ≤ cfT cf0 x y := by simp [ltT, ltF, cfT]
theorem Parts.out {lt : α → α → Bool} {a m b : Nat} {d r : Array (α × Nat)} (h : Parts lt a m b d) (hr : ∀ x, a ≤ x → r[x]! = d[x]!) (hs : r.size = d.size) : Parts lt a m b r := by
  have h1 := h.am
  have h2 := h.mb
  refine ⟨fun i j h3 h4 h5 => ?_, fun i j h3 h4 h5 => ?_, fun i j h3 h4 h5 h6 => ?_, h1, h2, by have := h.size; omega⟩
  · rw [hr _ h3, hr _ (by omega)]; exact h.left i j h3 h4 h5
  · rw [hr _ (by omega), hr _ (by omega)]; exact h.right i j h3 h4 h5
  · rw [hr _ h3, hr _ (by omega)]; exact h.tags i j h3 h4 h5 h6
/-- one of the two parts is empty -/
theorem Parts.whole {lt : α → α → Bool} {a m b : Nat} {d : Array (α × Nat)} (h : Parts lt a m b d) (he : ¬ (a < m ∧ m < b)) : TS lt a b d := by
  have h1 := h.am
  have h2 := h.mb
  by_cases h3 : a = m
  · rw [h3]; exact h.right
  · have : m = b := by omega
    rw [← this]; exact h.left
-- behind the rotation: world wq = SW .. q1 r1 os1 (HQ), HPM, HP1, HP2, HCR
/-- what a sort of the places from a to b leaves -/
def Sorted_ (lt : α → α → Bool) (enc : α × Nat → Value) (w : World) (blk off a b : Nat) (d : Array (α × Nat)) (e : Ending) (w' : World) : Prop :=
  e = .returned (.tuple #[]) ∧ ∃ q r os, w' = SW enc w blk off q r os ∧ PermIn a b d r ∧ TS lt a b r
include L hk
set_option maxHeartbeats 8000000 in
set_option maxRecDepth 1000000 in
theorem symMerge_any (hS : SWO (ltF cf0)) (g : Nat) (cb : Array Value) (blk off cap : Nat) (eg : ∀ args w, (callFunc g args).run P w = .ok (.enter g args) w) :
    ∀ (n a m b : Nat) (d : Array (α × Nat)) (w : World), b - a ≤ n → Cmp P g cb (encT enc0) (cfT cf0) blk off d.size w → Holds (encT enc0) w blk off d → blk < w.heap.size → a < m → m < b → b ≤ d.size → d.size < 4611686018427387904 → Parts (ltF cf0) a m b d →
    Calls P 73 #[.slice (some ⟨blk, off, none⟩) d.size cap, .int .i64 a, .int .i64 m, .int .i64 b, .func (.func g) #[] cb] w (Sorted_ (ltF cf0) (encT enc0) w blk off a b d) := by
  intro n
  induction n with
  | zero => intro a m b d w hn _ _ _ h1 h2; omega
  | succ n IH =>
    intro a m b d w hn hcmp hH hblk ham hmb hb hsz hP
    by_cases hA : m = a + 1
    · refine (symLeft_any L (encT enc0) (fun x => hk x.1) (cfT cf0) g cb blk off cap a m b d w eg hcmp hH hblk hA (by omega) hb hsz ?_).mono ?_
      · intro s t h2 h3 h4 h5
        rcases Int.lt_or_le (cfT cf0 d[s]! d[a]!) 0 with h | h
        · exact h
        · exfalso
          have e1 := (hP.cross hS (i := a) (j := s) (Nat.le_refl _) (by omega) h2 (by omega)).1 (ltT_false.2 h)
          have e2 := TL.then_le hS e1 (at_eq (hP.right.le h2 h3 h4))
          have e3 := ltT_false.1 (TL.early_iff hS e2)
          omega
      · rintro e w' ⟨rfl, q, os, i, rfl, hi1, hi2, hlo, hhi⟩
        exact ⟨rfl, q, _, os, rfl, fwd_perm d a b hb _ (by omega), one_left hS hP hA hi1 hi2 (fun t h3 h4 => ltT_true.2 (hlo t h3 h4)) (fun t h3 h4 => ltT_false.2 (hhi t h3 h4))⟩
    by_cases hBB : b = m + 1
    · refine (symRight_any L (encT enc0) (fun x => hk x.1) (cfT cf0) g cb blk off cap a m b d w eg hcmp hH hblk (by omega) hBB hb hsz ?_).mono ?_
      · intro s t h2 h3 h4 h5
        rcases Int.lt_or_le (cfT cf0 d[m]! d[t]!) 0 with h | h
        · exact h
        · exfalso
          have e1 := (hP.cross hS (i := t) (j := m) (by omega) h4 (Nat.le_refl _) (by omega)).1 (ltT_false.2 h)
          have e2 := TL.le_then hS (at_eq (hP.left.le h2 h3 h4)) e1
          have e3 := ltT_false.1 (TL.early_iff hS e2)
          omega
      · rintro e w' ⟨rfl, q, os, i, rfl, hi1, hi2, hlo, hhi⟩
        exact ⟨rfl, q, _, os, rfl, bwd_perm d a b m hb (by omega) _ (by omega), one_right hS hP hBB hi1 hi2 (fun t h3 h4 => ltT_false.2 (hlo t h3 h4)) (fun t h3 h4 => ltT_true.2 (hhi t h3 h4))⟩
    obtain ⟨mid, hmid⟩ : ∃ mid, mid = (a + b) / 2 := ⟨_, rfl⟩
    obtain ⟨s0, hs0⟩ : ∃ s0, s0 = if mid < m then mid + m - b else a := ⟨_, rfl⟩
    obtain ⟨r0, hr0⟩ : ∃ r0, r0 = if mid < m then mid else m := ⟨_, rfl⟩
    have hb0 : a ≤ s0 ∧ s0 ≤ r0 ∧ r0 ≤ m ∧ r0 ≤ mid ∧ mid + m ≤ s0 + b ∧ a < mid ∧ mid < b := by split at hs0 <;> split at hr0 <;> omega
    have x0 : ((a : Int) + (b : Int)) / 2 = (mid : Int) := by omega
    have HMID := hide hmid
    have HS0 := hide hs0
    have HR0 := hide hr0
    have HP := hide hP
    have HSW := hide hS
    have HC : Aside _ := hcmp
    have HH : Hid (Holds (encT enc0) w blk off d) := hH
    have HST : Hid (w = SW (encT enc0) w blk off 0 d #[]) := SW_start hH
    obtain ⟨enc, henc⟩ : ∃ enc, enc = encT enc0 := ⟨_, rfl⟩
    rw [← henc] at HC HH HST ⊢
    obtain ⟨cf, hcf⟩ : ∃ cf, cf = cfT cf0 := ⟨_, rfl⟩
    rw [← hcf] at HC
    rw [← henc, ← hcf] at IH
    have HIH := hide IH
    have HK : Hid (OneCell enc) := by show OneCell enc; rw [henc]; exact fun x => hk x.1
    have HENC := hide henc
    have HCF := hide hcf
    have hm1 : (((m : Int) - (a : Int)) == 1) = false := by simp; omega
    have hm2 : (((b : Int) - (m : Int)) == 1) = false := by simp; omega
    clear hmid hs0 hr0 hP hS IH hcmp hH henc hcf
    have mixed := L.mixed; have tS := L.tS; have aS := L.aS; have zS := L.zS; have vS := L.vS; have t3 := L.t3; have a3 := L.a3; have z3 := L.z3; have v3 := L.v3; have t4 := L.t4; have a4 := L.a4; have z4 := L.z4; have v4 := L.v4; have tU := L.tU; have aU := L.aU; have zU := L.zU; have vU := L.vU
    have uS := run_underlying L.tS
    have eIns := L.eIns; have eSwr := L.eSwr; have eRot := L.eRot; have eSym := L.eSym; have eStb := L.eStb
    clear hk
    by_cases hmm : mid < m
    all_goals
      have hs0 : (s0 : Int) = if mid < m then (mid : Int) + (m : Int) - (b : Int) else (a : Int) := by rw [HS0.out]; split <;> omega
      have hr0 : (r0 : Int) = if mid < m then (mid : Int) else (m : Int) := by rw [HR0.out]; split <;> omega
      first | rw [if_pos hmm] at hs0 hr0 | rw [if_neg hmm] at hs0 hr0
      have HS0i := hide hs0
      have HR0i := hide hr0
      clear hs0 hr0
      go_enter L.fSym, Try.ntmps73
      go_wp2
      go_loopg [20, 21] (b - a) (fun g1 vi vj wr => ∃ (i j q : Nat) (os : Array Obj), vi = .int .i64 i ∧ vj = .int .i64 j ∧ s0 ≤ i ∧ i ≤ j ∧ j ≤ r0 ∧ j - i ≤ g1 ∧ wr = SW enc w blk off q d os ∧ Hid (∀ c, s0 ≤ c → c < i → ltT (ltF cf0) d[mid + m - 1 - c]! d[c]! = false) ∧ Hid (∀ c, j ≤ c → c < r0 → ltT (ltF cf0) d[mid + m - 1 - c]! d[c]! = true))
      case atStart => exact ⟨s0, r0, 0, #[], by have := HS0i.out; go_num, by have := HR0i.out; go_num, by omega, by omega, by omega, by omega, HST.out, hide fun t h h' => by omega, hide fun t h h' => by omega⟩
      case round =>
        obtain ⟨i, j, q, os, rfl, rfl, hi, hij, hj, hg1, hwr, HLO, HHI⟩ := hrel
        obtain ⟨dk, hdk⟩ : ∃ dk, dk = d := ⟨d, rfl⟩
        have hS : dk.size = d.size := by rw [hdk]
        have HQ : Hid (wr = SW enc w blk off q dk os) := by show _ = _; rw [hdk]; exact hwr
        have HD := hide hdk
        clear hwr hdk
        generalize wr = wq at *
        by_cases hlt : i < j
        · obtain ⟨h, hh⟩ : ∃ h, h = (i + j) / 2 := ⟨_, rfl⟩
          have h2 : i ≤ h ∧ h < j := by omega
          have y1 : ((i : Int) + (j : Int)) / 2 = (h : Int) := by omega
          have HH2 := hide hh
          clear hh
          obtain ⟨u, hu⟩ : ∃ u, u = mid + m - 1 - h := ⟨_, rfl⟩
          have hu2 : u + h + 1 = mid + m ∧ m ≤ u ∧ u < b := by
            have := HS0.out; have := HR0.out
            split at * <;> omega
          have HU := hide hu
          clear hu
          have z3 : IntKind.i64.wrap ((mid : Int) + (m : Int) - 1 - (h : Int)) = (u : Int) := by rw [IntWalk.i64_in _ (by omega)]; omega
          have z5 : (h : Int) < (d.size : Int) := by omega
          have z6 : (u : Int) < (d.size : Int) := by omega
          have S0 : Go.Proofs.SW enc w blk off dk wq := ⟨_, _, HQ.out⟩
          have R0 : Row1 enc w blk off d := ⟨HK.out, HH.out, hblk⟩
          have hcl0 := HK.out.cells
          simp only [Value.cells] at hcl0
          have hst := HK.out.store P
          have l1 := S0.cl R0 hS u (by omega)
          have l2 := S0.cl R0 hS h (by omega)
          have hcg := S0.cmp HC.out hS dk[u]! dk[h]!
          have CLS : Hid (∀ n' os', grow (wq.drewN n') os' = SW enc w blk off (q + n') dk (os ++ os')) := fun n' os' => by rw [HQ.out]; exact sortWorld_grown_c enc w blk off q n' dk os os'
          clear S0 R0
          by_cases hlv : cf dk[u]! dk[h]! < 0
          · have hb1 : decide (0 ≤ cf dk[u]! dk[h]!) = false := by simp; omega
            have hb2 : decide (cf dk[u]! dk[h]! < 0) = true := by simp; omega
            go_wp2_with fail
            go_quiet_grown (first | (go_at_fn g; refine Calls.grown_of (hcg _ _)))
            go_wp2
            have hlv' : ltT (ltF cf0) d[u]! d[h]! = true := by rw [ltT_true, ← HCF.out, ← HD.out]; exact hlv
            go_roundg (h - i)
            case measure => omega
            case rel => exact ⟨i, h, q + nq, os ++ osq, rfl, rfl, hi, by omega, by omega, Nat.le_refl _, by rw [CLS.out, HD.out], HLO, hide fun c h3 h4 => probe_mono HSW.out HP.out (n := mid + m) (by omega) h3 (by omega) (by have := HS0.out; have := HR0.out; split at * <;> omega) (by omega) (by omega) (by rw [← HU.out]; exact hlv')⟩
          · have hb1 : decide (0 ≤ cf dk[u]! dk[h]!) = true := by simp; omega
            have hb2 : decide (cf dk[u]! dk[h]! < 0) = false := by simp; omega
            go_wp2_with fail
            go_quiet_grown (first | (go_at_fn g; refine Calls.grown_of (hcg _ _)))
            go_wp2
            have hlv' : ltT (ltF cf0) d[u]! d[h]! = false := by rw [ltT_false, ← HCF.out, ← HD.out]; omega
            go_roundg (j - (h + 1))
            case measure => omega
            case rel => exact ⟨h + 1, j, q + nq, os ++ osq, by go_num, rfl, by omega, by omega, hj, Nat.le_refl _, by rw [CLS.out, HD.out], hide fun c h3 h4 => (by
              cases hc : ltT (ltF cf0) d[mid + m - 1 - c]! d[c]!
              · rfl
              · exfalso
                have := probe_mono HSW.out HP.out (n := mid + m) (c' := c) (c := h) (by omega) (by omega) (by omega) (by omega) (by have := HS0.out; have := HR0.out; split at * <;> omega) (by omega) hc
                rw [← HU.out, hlv'] at this; cases this), HHI⟩
        · obtain rfl : i = j := by omega
          obtain ⟨en, hen⟩ : ∃ en, en = mid + m - i := ⟨_, rfl⟩
          have hen2 : en + i = mid + m ∧ m ≤ en ∧ en ≤ b ∧ mid ≤ en := by
            have := HS0.out; have := HR0.out
            split at * <;> omega
          have w1 : (mid : Int) + (m : Int) - (i : Int) = (en : Int) := by omega
          have HSPL := hide (fun (r : Array (α × Nat)) (hr : ∀ x, r[x]! = rotV d i m en x) (hrs : r.size = d.size) => split_parts HSW.out HP.out HMID.out HS0.out HR0.out hi hj (fun h3 => by have h4 := HLO.out (i - 1) (by omega) (by omega); rwa [show mid + m - 1 - (i - 1) = mid + m - i by omega] at h4) (fun h3 => by have h4 := HHI.out i (Nat.le_refl _) h3; rwa [show mid + m - 1 - i = mid + m - i - 1 by omega] at h4) (by rw [← hen]; exact hr) hrs)
          rw [← hen] at HSPL
          clear hen
          by_cases hrot : i < m ∧ m < en
          · have C := rotate_any L enc HK.out (.func (.func g) #[] cb) blk off cap i m en dk wq (by rw [HQ.out]; exact SW_holds HH.out hblk q dk os hS) (by rw [HQ.out]; exact SW_lt hblk q dk os) hrot.1 hrot.2 (by omega) (by omega)
            rw [hS] at C
            go_wp2_with fail
            refine C.mono ?_
            rintro e w2 ⟨rfl, q1, os1, r1, hw2, hp1, hv1⟩
            rw [HQ.out, SW_again enc w blk off q q1 dk r1 os os1 hblk hp1.1] at hw2
            rw [HD.out] at hp1 hv1
            obtain ⟨p1, p2, p3⟩ := HSPL.out r1 hv1 hp1.1
            have HP1 := hide p1
            have HP2 := hide p2
            have HCR := hide p3
            have HPM := hide (permIn_mono d r1 i en a b (by omega) (by omega) hb hp1)
            generalize q + q1 = q1 at hw2
            generalize os ++ os1 = os1 at hw2
            clear HQ hp1 hv1 p1 p2 p3 C HD hS HSPL
            have HQ := hide hw2
            clear hw2
            generalize w2 = wq at *
            have hS1 : r1.size = d.size := HPM.out.1
            by_cases hc1 : a < i ∧ i < mid
            · have C := HIH.out a i mid r1 wq (by omega) (by rw [hS1, HQ.out]; exact cmp_again HC.out hblk q1 r1 os1 hS1) (by rw [HQ.out]; exact SW_holds HH.out hblk q1 r1 os1 hS1) (by rw [HQ.out]; exact SW_lt hblk q1 r1 os1) hc1.1 hc1.2 (by omega) (by omega) HP1.out
              rw [hS1] at C
              go_wp2_with fail
              all_goals
                refine C.mono ?_
                rintro e w3 ⟨rfl, q3, r3, os3, hw3, hp3, ht3⟩
                rw [HQ.out, SW_again enc w blk off q1 q3 r1 r3 os1 os3 hblk hp3.1] at hw3
                have HP3 := hide hp3
                have HT3 := hide ht3
                generalize q1 + q3 = q3 at hw3
                generalize os1 ++ os3 = os3 at hw3
                clear HQ
                have HQ := hide hw3
                clear hw3 hp3 ht3 C
                generalize w3 = wq at *
                have hS3 : r3.size = d.size := HP3.out.1.trans hS1
                have HP2' := hide (Parts.out HP2.out (fun x hx => HP3.out.2.1 x (.inr hx)) HP3.out.1)
                by_cases hc2 : mid < en ∧ en < b
                · have C := HIH.out mid en b r3 wq (by omega) (by rw [hS3, HQ.out]; exact cmp_again HC.out hblk q3 r3 os3 hS3) (by rw [HQ.out]; exact SW_holds HH.out hblk q3 r3 os3 hS3) (by rw [HQ.out]; exact SW_lt hblk q3 r3 os3) hc2.1 hc2.2 (by omega) (by omega) HP2'.out
                  rw [hS3] at C
                  go_wp2_with fail
                  all_goals
                    refine C.mono ?_
                    rintro e w4 ⟨rfl, q4, r4, os4, hw4, hp4, ht4⟩
                    rw [HQ.out, SW_again enc w blk off q3 q4 r3 r4 os3 os4 hblk hp4.1] at hw4
                    have HW4 := hide hw4
                    have HP4 := hide hp4
                    have HT4 := hide ht4
                    clear hw4 hp4 ht4 C
                    go_wp2
                    all_goals
                      go_end0
                      obtain ⟨j1, j2⟩ := join_sorted (lt := ltF cf0) (by omega) (by omega) (by omega) HCR.out HP3.out HT3.out HP4.out HT4.out
                      exact ⟨rfl, _, r4, _, HW4.out, permIn_trans _ _ _ _ _ HPM.out j2, j1⟩
                · have hc2' : ¬ ((mid : Int) < (en : Int)) ∨ ¬ ((en : Int) < (b : Int)) := by omega
                  rcases hc2' with hc2' | hc2'
                  all_goals
                    go_wp2
                    all_goals
                      go_end0
                      obtain ⟨j1, j2⟩ := join_sorted (lt := ltF cf0) (by omega) (by omega) (by omega) HCR.out HP3.out HT3.out (permIn_refl r3 mid b) (Parts.whole HP2'.out (by omega))
                      exact ⟨rfl, _, r3, _, HQ.out, permIn_trans _ _ _ _ _ HPM.out j2, j1⟩
            · have hc1' : ¬ ((a : Int) < (i : Int)) ∨ ¬ ((i : Int) < (mid : Int)) := by omega
              obtain ⟨r3, hr3⟩ : ∃ r3, r3 = r1 := ⟨_, rfl⟩
              obtain ⟨q3, hq3⟩ : ∃ q3, q3 = q1 := ⟨_, rfl⟩
              obtain ⟨os3, ho3⟩ : ∃ os3, os3 = os1 := ⟨_, rfl⟩
              have HP3 : Hid (PermIn a mid r1 r3) := by show PermIn a mid r1 r3; rw [hr3]; exact permIn_refl r1 a mid
              have HT3 : Hid (TS (ltF cf0) a mid r3) := by show TS (ltF cf0) a mid r3; rw [hr3]; exact Parts.whole HP1.out (by omega)
              have HQ0 := HQ
              clear HQ
              have HQ : Hid (wq = SW enc w blk off q3 r3 os3) := by show _ = _; rw [hr3, hq3, ho3]; exact HQ0.out
              clear hr3 hq3 ho3
              rcases hc1' with hc1' | hc1'
              all_goals
                have hS3 : r3.size = d.size := HP3.out.1.trans hS1
                have HP2' := hide (Parts.out HP2.out (fun x hx => HP3.out.2.1 x (.inr hx)) HP3.out.1)
                by_cases hc2 : mid < en ∧ en < b
                · have C := HIH.out mid en b r3 wq (by omega) (by rw [hS3, HQ.out]; exact cmp_again HC.out hblk q3 r3 os3 hS3) (by rw [HQ.out]; exact SW_holds HH.out hblk q3 r3 os3 hS3) (by rw [HQ.out]; exact SW_lt hblk q3 r3 os3) hc2.1 hc2.2 (by omega) (by omega) HP2'.out
                  rw [hS3] at C
                  go_wp2_with fail
                  all_goals
                    refine C.mono ?_
                    rintro e w4 ⟨rfl, q4, r4, os4, hw4, hp4, ht4⟩
                    rw [HQ.out, SW_again enc w blk off q3 q4 r3 r4 os3 os4 hblk hp4.1] at hw4
                    have HW4 := hide hw4
                    have HP4 := hide hp4
                    have HT4 := hide ht4
                    clear hw4 hp4 ht4 C
                    go_wp2
                    all_goals
                      go_end0
                      obtain ⟨j1, j2⟩ := join_sorted (lt := ltF cf0) (by omega) (by omega) (by omega) HCR.out HP3.out HT3.out HP4.out HT4.out
                      exact ⟨rfl, _, r4, _, HW4.out, permIn_trans _ _ _ _ _ HPM.out j2, j1⟩
                · have hc2' : ¬ ((mid : Int) < (en : Int)) ∨ ¬ ((en : Int) < (b : Int)) := by omega
                  rcases hc2' with hc2' | hc2'
                  all_goals
                    go_wp2
                    all_goals
                      go_end0
                      obtain ⟨j1, j2⟩ := join_sorted (lt := ltF cf0) (by omega) (by omega) (by omega) HCR.out HP3.out HT3.out (permIn_refl r3 mid b) (Parts.whole HP2'.out (by omega))
                      exact ⟨rfl, _, r3, _, HQ.out, permIn_trans _ _ _ _ _ HPM.out j2, j1⟩
          · have hid : ∀ x, d[x]! = rotV d i m en x := fun x => by
              unfold rotV
              repeat' split
              all_goals first | rfl | (exfalso; omega) | (congr 1; omega)
            obtain ⟨p1, p2, p3⟩ := HSPL.out d hid rfl
            obtain ⟨r1, hr1⟩ : ∃ r1, r1 = d := ⟨_, rfl⟩
            rw [← hr1] at p1 p2 p3
            have HPM : Hid (PermIn a b d r1) := by show PermIn a b d r1; rw [hr1]; exact permIn_refl d a b
            have HP1 := hide p1
            have HP2 := hide p2
            have HCR := hide p3
            have HQ0 := HQ
            clear HQ
            have HQ : Hid (wq = SW enc w blk off q r1 os) := by show _ = _; rw [hr1, ← HD.out]; exact HQ0.out
            clear HQ0 p1 p2 p3 hid HD hS HSPL hr1
            generalize q = q1 at *
            generalize os = os1 at *
            have hrot' : ¬ ((i : Int) < (m : Int)) ∨ ¬ ((m : Int) < (en : Int)) := by omega
            rcases hrot' with hrot' | hrot'
            all_goals
              have hS1 : r1.size = d.size := HPM.out.1
              by_cases hc1 : a < i ∧ i < mid
              · have C := HIH.out a i mid r1 wq (by omega) (by rw [hS1, HQ.out]; exact cmp_again HC.out hblk q1 r1 os1 hS1) (by rw [HQ.out]; exact SW_holds HH.out hblk q1 r1 os1 hS1) (by rw [HQ.out]; exact SW_lt hblk q1 r1 os1) hc1.1 hc1.2 (by omega) (by omega) HP1.out
                rw [hS1] at C
                go_wp2_with fail
                all_goals
                  refine C.mono ?_
                  rintro e w3 ⟨rfl, q3, r3, os3, hw3, hp3, ht3⟩
                  rw [HQ.out, SW_again enc w blk off q1 q3 r1 r3 os1 os3 hblk hp3.1] at hw3
                  have HP3 := hide hp3
                  have HT3 := hide ht3
                  generalize q1 + q3 = q3 at hw3
                  generalize os1 ++ os3 = os3 at hw3
                  clear HQ
                  have HQ := hide hw3
                  clear hw3 hp3 ht3 C
                  generalize w3 = wq at *
                  have hS3 : r3.size = d.size := HP3.out.1.trans hS1
                  have HP2' := hide (Parts.out HP2.out (fun x hx => HP3.out.2.1 x (.inr hx)) HP3.out.1)
                  by_cases hc2 : mid < en ∧ en < b
                  · have C := HIH.out mid en b r3 wq (by omega) (by rw [hS3, HQ.out]; exact cmp_again HC.out hblk q3 r3 os3 hS3) (by rw [HQ.out]; exact SW_holds HH.out hblk q3 r3 os3 hS3) (by rw [HQ.out]; exact SW_lt hblk q3 r3 os3) hc2.1 hc2.2 (by omega) (by omega) HP2'.out
                    rw [hS3] at C
                    go_wp2_with fail
                    all_goals
                      refine C.mono ?_
                      rintro e w4 ⟨rfl, q4, r4, os4, hw4, hp4, ht4⟩
                      rw [HQ.out, SW_again enc w blk off q3 q4 r3 r4 os3 os4 hblk hp4.1] at hw4
                      have HW4 := hide hw4
                      have HP4 := hide hp4
                      have HT4 := hide ht4
                      clear hw4 hp4 ht4 C
                      go_wp2
                      all_goals
                        go_end0
                        obtain ⟨j1, j2⟩ := join_sorted (lt := ltF cf0) (by omega) (by omega) (by omega) HCR.out HP3.out HT3.out HP4.out HT4.out
                        exact ⟨rfl, _, r4, _, HW4.out, permIn_trans _ _ _ _ _ HPM.out j2, j1⟩
                  · have hc2' : ¬ ((mid : Int) < (en : Int)) ∨ ¬ ((en : Int) < (b : Int)) := by omega
                    rcases hc2' with hc2' | hc2'
                    all_goals
                      go_wp2
                      all_goals
                        go_end0
                        obtain ⟨j1, j2⟩ := join_sorted (lt := ltF cf0) (by omega) (by omega) (by omega) HCR.out HP3.out HT3.out (permIn_refl r3 mid b) (Parts.whole HP2'.out (by omega))
                        exact ⟨rfl, _, r3, _, HQ.out, permIn_trans _ _ _ _ _ HPM.out j2, j1⟩
              · have hc1' : ¬ ((a : Int) < (i : Int)) ∨ ¬ ((i : Int) < (mid : Int)) := by omega
                obtain ⟨r3, hr3⟩ : ∃ r3, r3 = r1 := ⟨_, rfl⟩
                obtain ⟨q3, hq3⟩ : ∃ q3, q3 = q1 := ⟨_, rfl⟩
                obtain ⟨os3, ho3⟩ : ∃ os3, os3 = os1 := ⟨_, rfl⟩
                have HP3 : Hid (PermIn a mid r1 r3) := by show PermIn a mid r1 r3; rw [hr3]; exact permIn_refl r1 a mid
                have HT3 : Hid (TS (ltF cf0) a mid r3) := by show TS (ltF cf0) a mid r3; rw [hr3]; exact Parts.whole HP1.out (by omega)
                have HQ0 := HQ
                clear HQ
                have HQ : Hid (wq = SW enc w blk off q3 r3 os3) := by show _ = _; rw [hr3, hq3, ho3]; exact HQ0.out
                clear hr3 hq3 ho3
                rcases hc1' with hc1' | hc1'
                all_goals
                  have hS3 : r3.size = d.size := HP3.out.1.trans hS1
                  have HP2' := hide (Parts.out HP2.out (fun x hx => HP3.out.2.1 x (.inr hx)) HP3.out.1)
                  by_cases hc2 : mid < en ∧ en < b
                  · have C := HIH.out mid en b r3 wq (by omega) (by rw [hS3, HQ.out]; exact cmp_again HC.out hblk q3 r3 os3 hS3) (by rw [HQ.out]; exact SW_holds HH.out hblk q3 r3 os3 hS3) (by rw [HQ.out]; exact SW_lt hblk q3 r3 os3) hc2.1 hc2.2 (by omega) (by omega) HP2'.out
                    rw [hS3] at C
                    go_wp2_with fail
                    all_goals
                      refine C.mono ?_
                      rintro e w4 ⟨rfl, q4, r4, os4, hw4, hp4, ht4⟩
                      rw [HQ.out, SW_again enc w blk off q3 q4 r3 r4 os3 os4 hblk hp4.1] at hw4
                      have HW4 := hide hw4
                      have HP4 := hide hp4
                      have HT4 := hide ht4
                      clear hw4 hp4 ht4 C
                      go_wp2
                      all_goals
                        go_end0
                        obtain ⟨j1, j2⟩ := join_sorted (lt := ltF cf0) (by omega) (by omega) (by omega) HCR.out HP3.out HT3.out HP4.out HT4.out
                        exact ⟨rfl, _, r4, _, HW4.out, permIn_trans _ _ _ _ _ HPM.out j2, j1⟩
                  · have hc2' : ¬ ((mid : Int) < (en : Int)) ∨ ¬ ((en : Int) < (b : Int)) := by omega
                    rcases hc2' with hc2' | hc2'
                    all_goals
                      go_wp2
                      all_goals
                        go_end0
                        obtain ⟨j1, j2⟩ := join_sorted (lt := ltF cf0) (by omega) (by omega) (by omega) HCR.out HP3.out HT3.out (permIn_refl r3 mid b) (Parts.whole HP2'.out (by omega))
                        exact ⟨rfl, _, r3, _, HQ.out, permIn_trans _ _ _ _ _ HPM.out j2, j1⟩
end
end StabInt
end Go.Proofs.Ytpeokpnjnmgloaa
