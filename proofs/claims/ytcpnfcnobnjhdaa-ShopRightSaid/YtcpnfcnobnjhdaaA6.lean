/- Parts of the proofs of this seat: StabMAt, SortP, StabIAt, StabSAt, Chg, Right, EndP. Each part says what it proves; no condition beyond those stated there. -/
import Derived.Test.YtcpnfcnobnjhdaaA5

/- The library's stable sort of shop.at: merging, and the whole. -/
namespace Go.Proofs.Ytcpnfcnobnjhdaa
open Go Go.Sort Go.RowKit Go.Lib Go.Shelf Go.Proofs
namespace StabAt
variable {P : Program}
section
variable {β : Type} [Inhabited β] {enc : β → List Value} {k : Nat} {w : World} {blk off : Nat} {d : Array β}
theorem SW_holds (hH : HoldsK enc k w blk off d) (hblk : blk < w.heap.size) (q : Nat) (r : Array β) (os : Array Obj) (hs : r.size = d.size) : HoldsK enc k (SW enc k w blk off q r os) blk off r :=
  holdsK_sortWorldK_c enc k w blk off d r q os hH hblk hs
theorem SW_lt (hblk : blk < w.heap.size) (q : Nat) (r : Array β) (os : Array Obj) : blk < (SW enc k w blk off q r os).heap.size :=
  Nat.lt_of_lt_of_le hblk (size_sortWorldK_c enc k w blk off q r os)
theorem SW_start (hH : HoldsK enc k w blk off d) : w = SW enc k w blk off 0 d #[] := by unfold SW sortWorldK; rw [grow_empty]; exact (putRowK_self enc k w blk off d hH).symm
theorem cmp_again {g : Nat} {cb : Array Value} {cf : β → β → Int} {size : Nat} (h : Cmp P g cb enc k cf blk off size w) (hblk : blk < w.heap.size) (q : Nat) (r : Array β) (os : Array Obj) (hs : r.size = size) :
    Cmp P g cb enc k cf blk off size (SW enc k w blk off q r os) := by
  intro m os' dk hd x y
  have e : sortWorldK enc k (SW enc k w blk off q r os) blk off m dk os' = sortWorldK enc k w blk off (q + m) dk (os ++ os') := SW_again enc k w blk off q m r dk os os' hblk (by omega)
  rw [e]
  exact h (q + m) (os ++ os') dk hd x y
end
section
variable {α : Type} [Inhabited α] {k : Nat} (L : Lay P k) (enc0 : α → List Value) (hk : ∀ x, (enc0 x).length = k) (h1 : ∀ x, ∀ v ∈ enc0 x, v.oneCell' = true) (cf0 : α → α → Int)
/-- elements with their tags -/
def encT (enc0 : α → List Value) (x : α × Nat) : List Value := enc0 x.1
def cfT (cf0 : α → α → Int) (x y : α × Nat) : Int := cf0 x.1 y.1
def ltF (cf0 : α → α → Int) (x y : α) : Bool := decide (cf0 x y < 0)
theorem ltT_true {α : Type} {cf0 : α → α → Int} {x y : α × Nat} : ltT (ltF cf0) x y = true ↔ cfT cf0 x y < 0 := by simp [ltT, ltF, cfT]
theorem ltT_false {α : Type} {cf0 : α → α → Int} {x y : α × Nat} : ltT (ltF cf0) x y = false ↔ 0 ≤ cfT cf0 x y := by simp [ltT, ltF, cfT]
theorem Parts.out {lt : α → α → Bool} {a m b : Nat} {d r : Array (α × Nat)} (h : Parts lt a m b d) (hr : ∀ x, a ≤ x → r[x]! = d[x]!) (hs : r.size = d.size) : Parts lt a m b r := by
  have h1 := h.am
  have h2 := h.mb
  refine ⟨fun i j h3 h4 h5 => ?_, fun i j h3 h4 h5 => ?_, fun i j h3 h4 h5 h6 => ?_, h1, h2, by have := h.size; omega⟩
  · rw [hr _ h3, hr _ (by omega)]; exact h.left i j h3 h4 h5
  · rw [hr _ (by omega), hr _ (by omega)]; exact h.right i j h3 h4 h5
  · rw [hr _ h3, hr _ (by omega)]; exact h.tags i j h3 h4 h5 h6
/-- one of the two parts is empty -/
theorem Parts.whole {lt : α → α → Bool} {a m b : Nat} {d : Array (α × Nat)} (h : Parts lt a m b d) (he : ¬ (a < m ∧ m < b)) : TS lt a b d := by
  have h1 := h.am
  have h2 := h.mb
  by_cases h3 : a = m
  · rw [h3]; exact h.right
  · have : m = b := by omega
    rw [← this]; exact h.left
-- behind the rotation: world wq = SW .. q1 r1 os1 (HQ), HPM, HP1, HP2, HCR
/-- what a sort of the places from a to b leaves -/
def Sorted_ (lt : α → α → Bool) (enc : α × Nat → List Value) (k : Nat) (w : World) (blk off a b : Nat) (d : Array (α × Nat)) (e : Ending) (w' : World) : Prop :=
  e = .returned (.tuple #[]) ∧ ∃ q r os, w' = SW enc k w blk off q r os ∧ PermIn a b d r ∧ TS lt a b r
include L hk h1
set_option maxHeartbeats 8000000 in
set_option maxRecDepth 1000000 in
theorem symMerge_any (hS : SWO (ltF cf0)) (g : Nat) (cb : Array Value) (blk off cap : Nat) (eg : ∀ args w, (callFunc g args).run P w = .ok (.enter g args) w) :
    ∀ (n a m b : Nat) (d : Array (α × Nat)) (w : World), b - a ≤ n → Cmp P g cb (encT enc0) k (cfT cf0) blk off d.size w → HoldsK (encT enc0) k w blk off d → blk < w.heap.size → a < m → m < b → b ≤ d.size → d.size < 4611686018427387904 → Parts (ltF cf0) a m b d →
    Calls P 94 #[.slice (some ⟨blk, off, none⟩) d.size cap, .int .i64 a, .int .i64 m, .int .i64 b, .func (.func g) #[] cb] w (Sorted_ (ltF cf0) (encT enc0) k w blk off a b d) := by
  intro n
  induction n with
  | zero => intro a m b d w hn _ _ _ h1 h2; omega
  | succ n IH =>
    intro a m b d w hn hcmp hH hblk ham hmb hb hsz hP
    by_cases hA : m = a + 1
    · refine (symLeft_any L (encT enc0) (fun x => hk x.1) (fun x => h1 x.1) (cfT cf0) g cb blk off cap a m b d w eg hcmp hH hblk hA (by omega) hb hsz ?_).mono ?_
      · intro s t h2 h3 h4 h5
        rcases Int.lt_or_le (cfT cf0 d[s]! d[a]!) 0 with h | h
        · exact h
        · exfalso
          have e1 := (hP.cross hS (i := a) (j := s) (Nat.le_refl _) (by omega) h2 (by omega)).1 (ltT_false.2 h)
          have e2 := TL.then_le hS e1 (at_eq (hP.right.le h2 h3 h4))
          have e3 := ltT_false.1 (TL.early_iff hS e2)
          omega
      · rintro e w' ⟨rfl, q, os, i, rfl, hi1, hi2, hlo, hhi⟩
        exact ⟨rfl, q, _, os, rfl, fwd_perm d a b hb _ (by omega), one_left hS hP hA hi1 hi2 (fun t h3 h4 => ltT_true.2 (hlo t h3 h4)) (fun t h3 h4 => ltT_false.2 (hhi t h3 h4))⟩
    by_cases hBB : b = m + 1
    · refine (symRight_any L (encT enc0) (fun x => hk x.1) (fun x => h1 x.1) (cfT cf0) g cb blk off cap a m b d w eg hcmp hH hblk (by omega) hBB hb hsz ?_).mono ?_
      · intro s t h2 h3 h4 h5
        rcases Int.lt_or_le (cfT cf0 d[m]! d[t]!) 0 with h | h
        · exact h
        · exfalso
          have e1 := (hP.cross hS (i := t) (j := m) (by omega) h4 (Nat.le_refl _) (by omega)).1 (ltT_false.2 h)
          have e2 := TL.le_then hS (at_eq (hP.left.le h2 h3 h4)) e1
          have e3 := ltT_false.1 (TL.early_iff hS e2)
          omega
      · rintro e w' ⟨rfl, q, os, i, rfl, hi1, hi2, hlo, hhi⟩
        exact ⟨rfl, q, _, os, rfl, bwd_perm d a b m hb (by omega) _ (by omega), one_right hS hP hBB hi1 hi2 (fun t h3 h4 => ltT_false.2 (hlo t h3 h4)) (fun t h3 h4 => ltT_true.2 (hhi t h3 h4))⟩
    obtain ⟨mid, hmid⟩ : ∃ mid, mid = (a + b) / 2 := ⟨_, rfl⟩
    obtain ⟨s0, hs0⟩ : ∃ s0, s0 = if mid < m then mid + m - b else a := ⟨_, rfl⟩
    obtain ⟨r0, hr0⟩ : ∃ r0, r0 = if mid < m then mid else m := ⟨_, rfl⟩
    have hb0 : a ≤ s0 ∧ s0 ≤ r0 ∧ r0 ≤ m ∧ r0 ≤ mid ∧ mid + m ≤ s0 + b ∧ a < mid ∧ mid < b := by split at hs0 <;> split at hr0 <;> omega
    have x0 : ((a : Int) + (b : Int)) / 2 = (mid : Int) := by omega
    have HMID := hide hmid
    have HS0 := hide hs0
    have HR0 := hide hr0
    have HP := hide hP
    have HSW := hide hS
    have HC : Aside _ := hcmp
    have HH : Hid (HoldsK (encT enc0) k w blk off d) := hH
    have HST : Hid (w = SW (encT enc0) k w blk off 0 d #[]) := SW_start hH
    obtain ⟨enc, henc⟩ : ∃ enc, enc = encT enc0 := ⟨_, rfl⟩
    rw [← henc] at HC HH HST ⊢
    obtain ⟨cf, hcf⟩ : ∃ cf, cf = cfT cf0 := ⟨_, rfl⟩
    rw [← hcf] at HC
    rw [← henc, ← hcf] at IH
    have HIH := hide IH
    have HK : Hid (∀ x, (enc x).length = k) := by show ∀ x, (enc x).length = k; rw [henc]; exact fun x => hk x.1
    have H1 : Hid (∀ x, ∀ v ∈ enc x, v.oneCell' = true) := by show ∀ x, ∀ v ∈ enc x, v.oneCell' = true; rw [henc]; exact fun x => h1 x.1
    have HENC := hide henc
    have HCF := hide hcf
    have hm1 : (((m : Int) - (a : Int)) == 1) = false := by simp; omega
    have hm2 : (((b : Int) - (m : Int)) == 1) = false := by simp; omega
    clear hmid hs0 hr0 hP hS IH hcmp hH henc hcf
    have mixed := L.mixed; have tS := L.tS; have aS := L.aS; have zS := L.zS; have vS := L.vS; have t3 := L.t3; have a3 := L.a3; have z3 := L.z3; have v3 := L.v3; have t4 := L.t4; have a4 := L.a4; have z4 := L.z4; have v4 := L.v4; have aE := L.aE; have zE := L.zE; have tU := L.tU; have aU := L.aU; have zU := L.zU; have vU := L.vU
    have uS := run_underlying L.tS
    have eIns := L.eIns; have eSwr := L.eSwr; have eRot := L.eRot; have eSym := L.eSym; have eStb := L.eStb
    clear hk h1
    by_cases hmm : mid < m
    all_goals
      have hs0 : (s0 : Int) = if mid < m then (mid : Int) + (m : Int) - (b : Int) else (a : Int) := by rw [HS0.out]; split <;> omega
      have hr0 : (r0 : Int) = if mid < m then (mid : Int) else (m : Int) := by rw [HR0.out]; split <;> omega
      first | rw [if_pos hmm] at hs0 hr0 | rw [if_neg hmm] at hs0 hr0
      have HS0i := hide hs0
      have HR0i := hide hr0
      clear hs0 hr0
      go_enter L.fSym, Try.ntmps94
      go_wp2
      go_loopg [20, 21] (b - a) (fun g1 vi vj wr => ∃ (i j q : Nat) (os : Array Obj), vi = .int .i64 i ∧ vj = .int .i64 j ∧ s0 ≤ i ∧ i ≤ j ∧ j ≤ r0 ∧ j - i ≤ g1 ∧ wr = SW enc k w blk off q d os ∧ Hid (∀ c, s0 ≤ c → c < i → ltT (ltF cf0) d[mid + m - 1 - c]! d[c]! = false) ∧ Hid (∀ c, j ≤ c → c < r0 → ltT (ltF cf0) d[mid + m - 1 - c]! d[c]! = true))
      case atStart => exact ⟨s0, r0, 0, #[], by have := HS0i.out; go_num, by have := HR0i.out; go_num, by omega, by omega, by omega, by omega, HST.out, hide fun t h h' => by omega, hide fun t h h' => by omega⟩
      case round =>
        obtain ⟨i, j, q, os, rfl, rfl, hi, hij, hj, hg1, hwr, HLO, HHI⟩ := hrel
        obtain ⟨dk, hdk⟩ : ∃ dk, dk = d := ⟨d, rfl⟩
        have hS : dk.size = d.size := by rw [hdk]
        have HQ : Hid (wr = SW enc k w blk off q dk os) := by show _ = _; rw [hdk]; exact hwr
        have HD := hide hdk
        clear hwr hdk
        generalize wr = wq at *
        by_cases hlt : i < j
        · obtain ⟨h, hh⟩ : ∃ h, h = (i + j) / 2 := ⟨_, rfl⟩
          have h2 : i ≤ h ∧ h < j := by omega
          have y1 : ((i : Int) + (j : Int)) / 2 = (h : Int) := by omega
          have HH2 := hide hh
          clear hh
          obtain ⟨u, hu⟩ : ∃ u, u = mid + m - 1 - h := ⟨_, rfl⟩
          have hu2 : u + h + 1 = mid + m ∧ m ≤ u ∧ u < b := by
            have := HS0.out; have := HR0.out
            split at * <;> omega
          have HU := hide hu
          clear hu
          have z3 : IntKind.i64.wrap ((mid : Int) + (m : Int) - 1 - (h : Int)) = (u : Int) := by rw [IntWalk.i64_in _ (by omega)]; omega
          have z5 : (h : Int) < (d.size : Int) := by omega
          have z6 : (u : Int) < (d.size : Int) := by omega
          have hcls : ∀ n' os', grow (wq.drewN n') os' = SW enc k w blk off (q + n') dk (os ++ os') := fun n' os' => by rw [HQ.out]; exact sortWorldK_grown_c enc k w blk off q n' dk os os'
          have hHc : ∀ n' os', HoldsK enc k (grow (wq.drewN n') os') blk off dk := fun n' os' => by rw [hcls]; exact holdsK_sortWorldK_c enc k w blk off d dk _ _ HH.out hblk hS
          have l1 : ∀ n' os', Sem.run P (loadCellsFrom ⟨blk, off + (u) * k, none⟩ 0 k #[]) (grow (wq.drewN n') os') = .ok (enc dk[u]!).toArray (grow (wq.drewN n') os') := fun n' os' => loads P HK.out (hHc n' os') (by omega)
          have l2 : ∀ n' os', Sem.run P (loadCellsFrom ⟨blk, off + (h) * k, none⟩ 0 k #[]) (grow (wq.drewN n') os') = .ok (enc dk[h]!).toArray (grow (wq.drewN n') os') := fun n' os' => loads P HK.out (hHc n' os') (by omega)
          have hcg : ∀ n' os', Calls P g (#[.agg (enc dk[u]!).toArray, .agg (enc dk[h]!).toArray] ++ cb) (grow (wq.drewN n') os') fun e w' => e = .returned (.int .i64 (cf dk[u]! dk[h]!)) ∧ ∃ q os'', w' = grow ((grow (wq.drewN n') os').drewN q) os'' := fun n' os' => by
            rw [hcls]; exact HC.out _ _ dk hS dk[u]! dk[h]!
          have CLS : Hid _ := hcls
          clear hcls hHc
          by_cases hlv : cf dk[u]! dk[h]! < 0
          · have hb1 : decide (0 ≤ cf dk[u]! dk[h]!) = false := by simp; omega
            have hb2 : decide (cf dk[u]! dk[h]! < 0) = true := by simp; omega
            go_wp2_with fail
            go_quiet_grown (first | (go_at_fn g; refine Calls.grown_of (hcg _ _)))
            go_wp2
            have hlv' : ltT (ltF cf0) d[u]! d[h]! = true := by rw [ltT_true, ← HCF.out, ← HD.out]; exact hlv
            go_roundg (h - i)
            case measure => omega
            case rel => exact ⟨i, h, q + nq, os ++ osq, rfl, rfl, hi, by omega, by omega, Nat.le_refl _, by rw [CLS.out, HD.out], HLO, hide fun c h3 h4 => probe_mono HSW.out HP.out (n := mid + m) (by omega) h3 (by omega) (by have := HS0.out; have := HR0.out; split at * <;> omega) (by omega) (by omega) (by rw [← HU.out]; exact hlv')⟩
          · have hb1 : decide (0 ≤ cf dk[u]! dk[h]!) = true := by simp; omega
            have hb2 : decide (cf dk[u]! dk[h]! < 0) = false := by simp; omega
            go_wp2_with fail
            go_quiet_grown (first | (go_at_fn g; refine Calls.grown_of (hcg _ _)))
            go_wp2
            have hlv' : ltT (ltF cf0) d[u]! d[h]! = false := by rw [ltT_false, ← HCF.out, ← HD.out]; omega
            go_roundg (j - (h + 1))
            case measure => omega
            case rel => exact ⟨h + 1, j, q + nq, os ++ osq, by go_num, rfl, by omega, by omega, hj, Nat.le_refl _, by rw [CLS.out, HD.out], hide fun c h3 h4 => (by
              cases hc : ltT (ltF cf0) d[mid + m - 1 - c]! d[c]!
              · rfl
              · exfalso
                have := probe_mono HSW.out HP.out (n := mid + m) (c' := c) (c := h) (by omega) (by omega) (by omega) (by omega) (by have := HS0.out; have := HR0.out; split at * <;> omega) (by omega) hc
                rw [← HU.out, hlv'] at this; cases this), HHI⟩
        · obtain rfl : i = j := by omega
          obtain ⟨en, hen⟩ : ∃ en, en = mid + m - i := ⟨_, rfl⟩
          have hen2 : en + i = mid + m ∧ m ≤ en ∧ en ≤ b ∧ mid ≤ en := by
            have := HS0.out; have := HR0.out
            split at * <;> omega
          have w1 : (mid : Int) + (m : Int) - (i : Int) = (en : Int) := by omega
          have HSPL := hide (fun (r : Array (α × Nat)) (hr : ∀ x, r[x]! = rotV d i m en x) (hrs : r.size = d.size) => split_parts HSW.out HP.out HMID.out HS0.out HR0.out hi hj (fun h3 => by have h4 := HLO.out (i - 1) (by omega) (by omega); rwa [show mid + m - 1 - (i - 1) = mid + m - i by omega] at h4) (fun h3 => by have h4 := HHI.out i (Nat.le_refl _) h3; rwa [show mid + m - 1 - i = mid + m - i - 1 by omega] at h4) (by rw [← hen]; exact hr) hrs)
          rw [← hen] at HSPL
          clear hen
          by_cases hrot : i < m ∧ m < en
          · have C := rotate_any L enc HK.out H1.out (.func (.func g) #[] cb) blk off cap i m en dk wq (by rw [HQ.out]; exact SW_holds HH.out hblk q dk os hS) (by rw [HQ.out]; exact SW_lt hblk q dk os) hrot.1 hrot.2 (by omega) (by omega)
            rw [hS] at C
            go_wp2_with fail
            refine C.mono ?_
            rintro e w2 ⟨rfl, q1, os1, r1, hw2, hp1, hv1⟩
            rw [HQ.out, SW_again enc k w blk off q q1 dk r1 os os1 hblk hp1.1] at hw2
            rw [HD.out] at hp1 hv1
            obtain ⟨p1, p2, p3⟩ := HSPL.out r1 hv1 hp1.1
            have HP1 := hide p1
            have HP2 := hide p2
            have HCR := hide p3
            have HPM := hide (permIn_mono d r1 i en a b (by omega) (by omega) hb hp1)
            generalize q + q1 = q1 at hw2
            generalize os ++ os1 = os1 at hw2
            clear HQ hp1 hv1 p1 p2 p3 C HD hS HSPL
            have HQ := hide hw2
            clear hw2
            generalize w2 = wq at *
            have hS1 : r1.size = d.size := HPM.out.1
            by_cases hc1 : a < i ∧ i < mid
            · have C := HIH.out a i mid r1 wq (by omega) (by rw [hS1, HQ.out]; exact cmp_again HC.out hblk q1 r1 os1 hS1) (by rw [HQ.out]; exact SW_holds HH.out hblk q1 r1 os1 hS1) (by rw [HQ.out]; exact SW_lt hblk q1 r1 os1) hc1.1 hc1.2 (by omega) (by omega) HP1.out
              rw [hS1] at C
              go_wp2_with fail
              all_goals
                refine C.mono ?_
                rintro e w3 ⟨rfl, q3, r3, os3, hw3, hp3, ht3⟩
                rw [HQ.out, SW_again enc k w blk off q1 q3 r1 r3 os1 os3 hblk hp3.1] at hw3
                have HP3 := hide hp3
                have HT3 := hide ht3
                generalize q1 + q3 = q3 at hw3
                generalize os1 ++ os3 = os3 at hw3
                clear HQ
                have HQ := hide hw3
                clear hw3 hp3 ht3 C
                generalize w3 = wq at *
                have hS3 : r3.size = d.size := HP3.out.1.trans hS1
                have HP2' := hide (Parts.out HP2.out (fun x hx => HP3.out.2.1 x (.inr hx)) HP3.out.1)
                by_cases hc2 : mid < en ∧ en < b
                · have C := HIH.out mid en b r3 wq (by omega) (by rw [hS3, HQ.out]; exact cmp_again HC.out hblk q3 r3 os3 hS3) (by rw [HQ.out]; exact SW_holds HH.out hblk q3 r3 os3 hS3) (by rw [HQ.out]; exact SW_lt hblk q3 r3 os3) hc2.1 hc2.2 (by omega) (by omega) HP2'.out
                  rw [hS3] at C
                  go_wp2_with fail
                  all_goals
                    refine C.mono ?_
                    rintro e w4 ⟨rfl, q4, r4, os4, hw4, hp4, ht4⟩
                    rw [HQ.out, SW_again enc k w blk off q3 q4 r3 r4 os3 os4 hblk hp4.1] at hw4
                    have HW4 := hide hw4
                    have HP4 := hide hp4
                    have HT4 := hide ht4
                    clear hw4 hp4 ht4 C
                    go_wp2
                    all_goals
                      go_end0
                      obtain ⟨j1, j2⟩ := join_sorted (lt := ltF cf0) (by omega) (by omega) (by omega) HCR.out HP3.out HT3.out HP4.out HT4.out
                      exact ⟨rfl, _, r4, _, HW4.out, permIn_trans _ _ _ _ _ HPM.out j2, j1⟩
                · have hc2' : ¬ ((mid : Int) < (en : Int)) ∨ ¬ ((en : Int) < (b : Int)) := by omega
                  rcases hc2' with hc2' | hc2'
                  all_goals
                    go_wp2
                    all_goals
                      go_end0
                      obtain ⟨j1, j2⟩ := join_sorted (lt := ltF cf0) (by omega) (by omega) (by omega) HCR.out HP3.out HT3.out (permIn_refl r3 mid b) (Parts.whole HP2'.out (by omega))
                      exact ⟨rfl, _, r3, _, HQ.out, permIn_trans _ _ _ _ _ HPM.out j2, j1⟩
            · have hc1' : ¬ ((a : Int) < (i : Int)) ∨ ¬ ((i : Int) < (mid : Int)) := by omega
              obtain ⟨r3, hr3⟩ : ∃ r3, r3 = r1 := ⟨_, rfl⟩
              obtain ⟨q3, hq3⟩ : ∃ q3, q3 = q1 := ⟨_, rfl⟩
              obtain ⟨os3, ho3⟩ : ∃ os3, os3 = os1 := ⟨_, rfl⟩
              have HP3 : Hid (PermIn a mid r1 r3) := by show PermIn a mid r1 r3; rw [hr3]; exact permIn_refl r1 a mid
              have HT3 : Hid (TS (ltF cf0) a mid r3) := by show TS (ltF cf0) a mid r3; rw [hr3]; exact Parts.whole HP1.out (by omega)
              have HQ0 := HQ
              clear HQ
              have HQ : Hid (wq = SW enc k w blk off q3 r3 os3) := by show _ = _; rw [hr3, hq3, ho3]; exact HQ0.out
              clear hr3 hq3 ho3
              rcases hc1' with hc1' | hc1'
              all_goals
                have hS3 : r3.size = d.size := HP3.out.1.trans hS1
                have HP2' := hide (Parts.out HP2.out (fun x hx => HP3.out.2.1 x (.inr hx)) HP3.out.1)
                by_cases hc2 : mid < en ∧ en < b
                · have C := HIH.out mid en b r3 wq (by omega) (by rw [hS3, HQ.out]; exact cmp_again HC.out hblk q3 r3 os3 hS3) (by rw [HQ.out]; exact SW_holds HH.out hblk q3 r3 os3 hS3) (by rw [HQ.out]; exact SW_lt hblk q3 r3 os3) hc2.1 hc2.2 (by omega) (by omega) HP2'.out
                  rw [hS3] at C
                  go_wp2_with fail
                  all_goals
                    refine C.mono ?_
                    rintro e w4 ⟨rfl, q4, r4, os4, hw4, hp4, ht4⟩
                    rw [HQ.out, SW_again enc k w blk off q3 q4 r3 r4 os3 os4 hblk hp4.1] at hw4
                    have HW4 := hide hw4
                    have HP4 := hide hp4
                    have HT4 := hide ht4
                    clear hw4 hp4 ht4 C
                    go_wp2
                    all_goals
                      go_end0
                      obtain ⟨j1, j2⟩ := join_sorted (lt := ltF cf0) (by omega) (by omega) (by omega) HCR.out HP3.out HT3.out HP4.out HT4.out
                      exact ⟨rfl, _, r4, _, HW4.out, permIn_trans _ _ _ _ _ HPM.out j2, j1⟩
                · have hc2' : ¬ ((mid : Int) < (en : Int)) ∨ ¬ ((en : Int) < (b : Int)) := by omega
                  rcases hc2' with hc2' | hc2'
                  all_goals
                    go_wp2
                    all_goals
                      go_end0
                      obtain ⟨j1, j2⟩ := join_sorted (lt := ltF cf0) (by omega) (by omega) (by omega) HCR.out HP3.out HT3.out (permIn_refl r3 mid b) (Parts.whole HP2'.out (by omega))
                      exact ⟨rfl, _, r3, _, HQ.out, permIn_trans _ _ _ _ _ HPM.out j2, j1⟩
          · have hid : ∀ x, d[x]! = rotV d i m en x := fun x => by
              unfold rotV
              repeat' split
              all_goals first | rfl | (exfalso; omega) | (congr 1; omega)
            obtain ⟨p1, p2, p3⟩ := HSPL.out d hid rfl
            obtain ⟨r1, hr1⟩ : ∃ r1, r1 = d := ⟨_, rfl⟩
            rw [← hr1] at p1 p2 p3
            have HPM : Hid (PermIn a b d r1) := by show PermIn a b d r1; rw [hr1]; exact permIn_refl d a b
            have HP1 := hide p1
            have HP2 := hide p2
            have HCR := hide p3
            have HQ0 := HQ
            clear HQ
            have HQ : Hid (wq = SW enc k w blk off q r1 os) := by show _ = _; rw [hr1, ← HD.out]; exact HQ0.out
            clear HQ0 p1 p2 p3 hid HD hS HSPL hr1
            generalize q = q1 at *
            generalize os = os1 at *
            have hrot' : ¬ ((i : Int) < (m : Int)) ∨ ¬ ((m : Int) < (en : Int)) := by omega
            rcases hrot' with hrot' | hrot'
            all_goals
              have hS1 : r1.size = d.size := HPM.out.1
              by_cases hc1 : a < i ∧ i < mid
              · have C := HIH.out a i mid r1 wq (by omega) (by rw [hS1, HQ.out]; exact cmp_again HC.out hblk q1 r1 os1 hS1) (by rw [HQ.out]; exact SW_holds HH.out hblk q1 r1 os1 hS1) (by rw [HQ.out]; exact SW_lt hblk q1 r1 os1) hc1.1 hc1.2 (by omega) (by omega) HP1.out
                rw [hS1] at C
                go_wp2_with fail
                all_goals
                  refine C.mono ?_
                  rintro e w3 ⟨rfl, q3, r3, os3, hw3, hp3, ht3⟩
                  rw [HQ.out, SW_again enc k w blk off q1 q3 r1 r3 os1 os3 hblk hp3.1] at hw3
                  have HP3 := hide hp3
                  have HT3 := hide ht3
                  generalize q1 + q3 = q3 at hw3
                  generalize os1 ++ os3 = os3 at hw3
                  clear HQ
                  have HQ := hide hw3
                  clear hw3 hp3 ht3 C
                  generalize w3 = wq at *
                  have hS3 : r3.size = d.size := HP3.out.1.trans hS1
                  have HP2' := hide (Parts.out HP2.out (fun x hx => HP3.out.2.1 x (.inr hx)) HP3.out.1)
                  by_cases hc2 : mid < en ∧ en < b
                  · have C := HIH.out mid en b r3 wq (by omega) (by rw [hS3, HQ.out]; exact cmp_again HC.out hblk q3 r3 os3 hS3) (by rw [HQ.out]; exact SW_holds HH.out hblk q3 r3 os3 hS3) (by rw [HQ.out]; exact SW_lt hblk q3 r3 os3) hc2.1 hc2.2 (by omega) (by omega) HP2'.out
                    rw [hS3] at C
                    go_wp2_with fail
                    all_goals
                      refine C.mono ?_
                      rintro e w4 ⟨rfl, q4, r4, os4, hw4, hp4, ht4⟩
                      rw [HQ.out, SW_again enc k w blk off q3 q4 r3 r4 os3 os4 hblk hp4.1] at hw4
                      have HW4 := hide hw4
                      have HP4 := hide hp4
                      have HT4 := hide ht4
                      clear hw4 hp4 ht4 C
                      go_wp2
                      all_goals
                        go_end0
                        obtain ⟨j1, j2⟩ := join_sorted (lt := ltF cf0) (by omega) (by omega) (by omega) HCR.out HP3.out HT3.out HP4.out HT4.out
                        exact ⟨rfl, _, r4, _, HW4.out, permIn_trans _ _ _ _ _ HPM.out j2, j1⟩
                  · have hc2' : ¬ ((mid : Int) < (en : Int)) ∨ ¬ ((en : Int) < (b : Int)) := by omega
                    rcases hc2' with hc2' | hc2'
                    all_goals
                      go_wp2
                      all_goals
                        go_end0
                        obtain ⟨j1, j2⟩ := join_sorted (lt := ltF cf0) (by omega) (by omega) (by omega) HCR.out HP3.out HT3.out (permIn_refl r3 mid b) (Parts.whole HP2'.out (by omega))
                        exact ⟨rfl, _, r3, _, HQ.out, permIn_trans _ _ _ _ _ HPM.out j2, j1⟩
              · have hc1' : ¬ ((a : Int) < (i : Int)) ∨ ¬ ((i : Int) < (mid : Int)) := by omega
                obtain ⟨r3, hr3⟩ : ∃ r3, r3 = r1 := ⟨_, rfl⟩
                obtain ⟨q3, hq3⟩ : ∃ q3, q3 = q1 := ⟨_, rfl⟩
                obtain ⟨os3, ho3⟩ : ∃ os3, os3 = os1 := ⟨_, rfl⟩
                have HP3 : Hid (PermIn a mid r1 r3) := by show PermIn a mid r1 r3; rw [hr3]; exact permIn_refl r1 a mid
                have HT3 : Hid (TS (ltF cf0) a mid r3) := by show TS (ltF cf0) a mid r3; rw [hr3]; exact Parts.whole HP1.out (by omega)
                have HQ0 := HQ
                clear HQ
                have HQ : Hid (wq = SW enc k w blk off q3 r3 os3) := by show _ = _; rw [hr3, hq3, ho3]; exact HQ0.out
                clear hr3 hq3 ho3
                rcases hc1' with hc1' | hc1'
                all_goals
                  have hS3 : r3.size = d.size := HP3.out.1.trans hS1
                  have HP2' := hide (Parts.out HP2.out (fun x hx => HP3.out.2.1 x (.inr hx)) HP3.out.1)
                  by_cases hc2 : mid < en ∧ en < b
                  · have C := HIH.out mid en b r3 wq (by omega) (by rw [hS3, HQ.out]; exact cmp_again HC.out hblk q3 r3 os3 hS3) (by rw [HQ.out]; exact SW_holds HH.out hblk q3 r3 os3 hS3) (by rw [HQ.out]; exact SW_lt hblk q3 r3 os3) hc2.1 hc2.2 (by omega) (by omega) HP2'.out
                    rw [hS3] at C
                    go_wp2_with fail
                    all_goals
                      refine C.mono ?_
                      rintro e w4 ⟨rfl, q4, r4, os4, hw4, hp4, ht4⟩
                      rw [HQ.out, SW_again enc k w blk off q3 q4 r3 r4 os3 os4 hblk hp4.1] at hw4
                      have HW4 := hide hw4
                      have HP4 := hide hp4
                      have HT4 := hide ht4
                      clear hw4 hp4 ht4 C
                      go_wp2
                      all_goals
                        go_end0
                        obtain ⟨j1, j2⟩ := join_sorted (lt := ltF cf0) (by omega) (by omega) (by omega) HCR.out HP3.out HT3.out HP4.out HT4.out
                        exact ⟨rfl, _, r4, _, HW4.out, permIn_trans _ _ _ _ _ HPM.out j2, j1⟩
                  · have hc2' : ¬ ((mid : Int) < (en : Int)) ∨ ¬ ((en : Int) < (b : Int)) := by omega
                    rcases hc2' with hc2' | hc2'
                    all_goals
                      go_wp2
                      all_goals
                        go_end0
                        obtain ⟨j1, j2⟩ := join_sorted (lt := ltF cf0) (by omega) (by omega) (by omega) HCR.out HP3.out HT3.out (permIn_refl r3 mid b) (Parts.whole HP2'.out (by omega))
                        exact ⟨rfl, _, r3, _, HQ.out, permIn_trans _ _ _ _ _ HPM.out j2, j1⟩
end
end StabAt
end Go.Proofs.Ytcpnfcnobnjhdaa

/- The steps in the order of their starts: the plain words. -/
namespace Go.Proofs.Ytcpnfcnobnjhdaa
open Go Go.Sort Go.RowKit StabAt
def cmpI (a b : Int) : Int := if a < b then -1 else if b < a then 1 else 0
def cfA (x y : At) : Int := cmpI x.t y.t
theorem ltA {x y : At} : ltF cfA x y = decide (x.t < y.t) := by
  unfold ltF cfA cmpI
  by_cases h : x.t < y.t
  · simp [h]
  · by_cases h2 : y.t < x.t <;> simp [h, h2]
theorem swoA : SWO (ltF cfA) := by
  refine ⟨fun x => by rw [ltA]; simp, fun x y z h1 h2 => ?_, fun x y z h1 h2 => ?_⟩ <;> rw [ltA] at * <;> simp at * <;> omega
def TA (x y : At × Nat) : Prop := x.1.t < y.1.t ∨ (x.1.t = y.1.t ∧ x.2 < y.2)
theorem ta_of {x y : At × Nat} (h : TL (ltF cfA) x y) : TA x y := by
  unfold TL at h
  rw [ltA, ltA] at h
  simp at h
  unfold TA
  omega
def insA (a : At) : List At → List At
  | [] => [a]
  | b :: r => if a.t < b.t then a :: b :: r else b :: insA a r
def sortA (l : List At) : List At := l.foldl (fun acc a => insA a acc) []
def insT (a : At × Nat) : List (At × Nat) → List (At × Nat)
  | [] => [a]
  | b :: r => if a.1.t < b.1.t then a :: b :: r else b :: insT a r
theorem insT_map (a : At × Nat) : ∀ l, (insT a l).map (·.1) = insA a.1 (l.map (·.1))
  | [] => rfl
  | b :: r => by
    unfold insT
    simp only [List.map_cons]
    rw [insA]
    split
    · rfl
    · rw [List.map_cons, insT_map a r]
theorem insT_perm (a : At × Nat) : ∀ l, (insT a l).Perm (a :: l)
  | [] => List.Perm.refl _
  | b :: r => by
    unfold insT
    split
    · exact List.Perm.refl _
    · exact ((insT_perm a r).cons b).trans (List.Perm.swap a b r)
theorem insT_sorted (a : At × Nat) : ∀ l : List (At × Nat), l.Pairwise TA → (∀ b ∈ l, b.2 < a.2) → (insT a l).Pairwise TA
  | [], _, _ => by simp [insT]
  | b :: r, h, ht => by
    unfold insT
    have h1 := List.pairwise_cons.1 h
    split
    · rename_i hlt
      refine List.pairwise_cons.2 ⟨fun c hc => ?_, h⟩
      rcases List.mem_cons.1 hc with rfl | hc
      · exact .inl hlt
      · have := h1.1 c hc
        unfold TA at this ⊢
        omega
    · rename_i hge
      refine List.pairwise_cons.2 ⟨fun c hc => ?_, insT_sorted a r h1.2 fun c hc => ht c (by simp [hc])⟩
      rcases List.mem_cons.1 ((insT_perm a r).subset hc) with rfl | hc
      · have := ht b (by simp)
        unfold TA
        omega
      · exact h1.1 c hc
theorem fold_sorted : ∀ (l : List At) (n : Nat) (acc : List (At × Nat)), acc.Pairwise TA → (∀ b ∈ acc, b.2 < n) →
    ∃ s : List (At × Nat), s.Pairwise TA ∧ s.Perm (acc ++ l.zipIdx n) ∧ s.map (·.1) = l.foldl (fun acc a => insA a acc) (acc.map (·.1))
  | [], n, acc, h, _ => ⟨acc, h, by simp, rfl⟩
  | a :: l, n, acc, h, ht => by
    obtain ⟨s, h1, h2, h3⟩ := fold_sorted l (n + 1) (insT (a, n) acc) (insT_sorted _ _ h ht) (fun b hb => by
      rcases List.mem_cons.1 ((insT_perm (a, n) acc).subset hb) with rfl | hb
      · exact Nat.lt_succ_self _
      · exact Nat.lt_succ_of_lt (ht b hb))
    refine ⟨s, h1, h2.trans ?_, by rw [h3, insT_map]; rfl⟩
    rw [List.zipIdx_cons]
    exact ((insT_perm (a, n) acc).append_right _).trans (List.perm_middle (l₁ := acc)).symm
def tagged (l : List At) : Array (At × Nat) := (l.zipIdx).toArray
theorem tagged_size (l : List At) : (tagged l).size = l.length := by simp [tagged]
theorem tagged_at {l : List At} {i : Nat} {a : At} (h : l[i]? = some a) : (tagged l)[i]! = (a, i) := by
  have hi := (List.getElem?_eq_some_iff.1 h).1
  rw [getElem!_pos _ _ (by simpa [tagged] using hi)]
  simp [tagged, (List.getElem?_eq_some_iff.1 h).2]
/-- the tagged steps in ascending order are one list -/
theorem sorted_eq {l : List At} {r : Array (At × Nat)} (hp : PermIn 0 l.length (tagged l) r) (ht : TS (ltF cfA) 0 l.length r) : r.toList.map (·.1) = sortA l := by
  obtain ⟨s, h1, h2, h3⟩ := fold_sorted l 0 [] List.Pairwise.nil (fun b hb => by cases hb)
  obtain ⟨hs, _, hq⟩ := hp
  rw [tagged_size] at hs
  have e1 : (r.extract 0 l.length).toList = r.toList := by simp [← hs]
  have e2 : ((tagged l).extract 0 l.length).toList = l.zipIdx := by
    simp only [tagged, List.extract_toArray, List.extract_eq_take_drop, List.drop_zero, Nat.sub_zero]
    exact List.take_of_length_le (by simp)
  rw [e1, e2] at hq
  have hr : r.toList.Pairwise TA := by
    rw [List.pairwise_iff_getElem]
    intro i j hi hj hij
    have hj' : j < r.size := by simpa using hj
    have hi' : i < r.size := by simpa using hi
    have := ht i j (Nat.zero_le _) hij (by omega)
    rw [getElem!_pos r i hi', getElem!_pos r j hj'] at this
    simpa using ta_of this
  have : r.toList = s := by
    refine List.Perm.eq_of_pairwise (le := TA) (fun a b _ _ g1 g2 => ?_) hr h1 (hq.trans (by simpa using h2.symm))
    unfold TA at g1 g2
    omega
  rw [this, h3]
  rfl
theorem insA_len (a : At) : ∀ l, (insA a l).length = l.length + 1
  | [] => rfl
  | b :: r => by
    unfold insA
    split
    · rfl
    · simp [insA_len a r]
theorem sortA_len_ : ∀ (l acc : List At), (l.foldl (fun acc a => insA a acc) acc).length = acc.length + l.length
  | [], acc => by simp
  | a :: l, acc => by
    rw [List.foldl_cons, sortA_len_ l, insA_len, List.length_cons]; omega
theorem sortA_len (l : List At) : (sortA l).length = l.length := by unfold sortA; rw [sortA_len_]; simp
end Go.Proofs.Ytcpnfcnobnjhdaa

/- The library's stable sort of shop.at: insertion (after the kit's slices.insertionSortCmpFunc at structs, which is proved over another program's text). -/
namespace Go.Proofs.Ytcpnfcnobnjhdaa
open Go Go.Sort Go.RowKit Go.Lib Go.Shelf Go.Proofs
namespace StabAt
variable {P : Program} {α : Type} [Inhabited α]
section
variable {k : Nat} (L : Lay P k) (enc : α → List Value) (hk : ∀ x, (enc x).length = k) (h1 : ∀ x, ∀ v ∈ enc x, v.oneCell' = true)
include L hk h1
set_option maxHeartbeats 4000000 in
set_option maxRecDepth 1000000 in
theorem insertion_any (cf : α → α → Int) (g : Nat) (cb : Array Value) (blk off cap a b : Nat) (d : Array α) (w : World)
    (eg : ∀ args w, (callFunc g args).run P w = .ok (.enter g args) w) (hcmp : CmpLays P g cb enc k cf blk off d.size w) (hH : HoldsK enc k w blk off d) (hblk : blk < w.heap.size) (hab : a ≤ b) (hb : b ≤ d.size) (hsz : d.size < 4611686018427387904) :
    Calls P 93 #[.slice (some ⟨blk, off, none⟩) d.size cap, .int .i64 a, .int .i64 b, .func (.func g) #[] cb] w fun e w' =>
      e = .returned (.tuple #[]) ∧ ∃ n os, w' = sortWorldK enc k w blk off n (Sort.insertionSort (ltOf cf) d a b) os := by
  have mixed := L.mixed; have tS := L.tS; have aS := L.aS; have zS := L.zS; have vS := L.vS; have t3 := L.t3; have a3 := L.a3; have z3 := L.z3; have v3 := L.v3; have t4 := L.t4; have a4 := L.a4; have z4 := L.z4; have v4 := L.v4; have aE := L.aE; have zE := L.zE; have tU := L.tU; have aU := L.aU; have zU := L.zU; have vU := L.vU
  have uS := run_underlying L.tS
  have eIns := L.eIns; have eSwr := L.eSwr; have eRot := L.eRot; have eSym := L.eSym; have eStb := L.eStb
  have HC : Aside _ := hcmp
  have HST : Hid (w = sortWorldK enc k w blk off 0 d #[]) := by show w = _; unfold sortWorldK; rw [grow_empty]; exact (putRowK_self enc k w blk off d hH).symm
  have HH : Hid (HoldsK enc k w blk off d) := hH
  have HK : Hid (∀ x, (enc x).length = k) := hk
  have H1 : Hid (∀ x, ∀ v ∈ enc x, v.oneCell' = true) := h1
  clear hcmp hH hk h1
  go_enter L.fIns, Try.ntmps93
  go_wp2
  go_loopg [8] (b - a) (fun g1 vi wr => ∃ (i n : Nat) (dk : Array α) (os : Array Obj), vi = .int .i64 i ∧ a < i ∧ i ≤ b + 1 ∧ b + 1 - i ≤ g1 + 1 ∧ dk.size = d.size ∧ wr = sortWorldK enc k w blk off n dk os ∧ Hid (insOuter (ltOf cf) a b i dk = insOuter (ltOf cf) a b (a + 1) d))
  case atStart => exact ⟨a + 1, 0, d, #[], by go_num, by omega, by omega, by omega, rfl, HST.out, rfl⟩
  case round =>
    obtain ⟨i, n, dk, os, rfl, hai, hib, hg1, hsk, rfl, HO⟩ := hrel
    by_cases hlt : i < b
    · have hltz : (i : Int) < (b : Int) := by omega
      go_wp2
      -- the inner loop
      go_loopg [9] i (fun g2 vj wr2 => ∃ (j m : Nat) (dj : Array α) (oj : Array Obj), vj = .int .i64 j ∧ a ≤ j ∧ j ≤ i ∧ j ≤ g2 ∧ dj.size = d.size ∧ wr2 = sortWorldK enc k w blk off m dj oj ∧ Hid (insInner (ltOf cf) a j dj = insInner (ltOf cf) a i dk))
      case atStart => exact ⟨i, n, dk, os, rfl, by omega, Nat.le_refl _, Nat.le_refl _, hsk, rfl, rfl⟩
      case round =>
        obtain ⟨j, m, dj, oj, rfl, haj, hji, hg2, hsj, rfl, HI⟩ := hrel
        have out : (j ≤ a ∨ ltOf cf dj[j]! dj[j - 1]! = false) → Hid (insOuter (ltOf cf) a b (i + 1) dj = insOuter (ltOf cf) a b (a + 1) d) := fun hs => by
          show _ = _
          rw [← HO.out, insOuter_go _ _ _ _ _ hlt, ← HI.out, insInner_stop _ _ _ _ hs]
        have OUT : Aside _ := out
        clear out
        by_cases hja : a < j
        · have hjaz : (a : Int) < (j : Int) := by omega
          obtain ⟨jp, rfl⟩ : ∃ jp, j = jp + 1 := ⟨j - 1, by omega⟩
          obtain ⟨xj, hxj⟩ : ∃ x, dj[jp + 1]! = x := ⟨_, rfl⟩
          obtain ⟨xp, hxp⟩ : ∃ x, dj[jp]! = x := ⟨_, rfl⟩
          have hwp : IntKind.i64.wrap (jp : Int) = (jp : Int) := by rw [IntKind.wrap_i64]; omega
          have jz : (jp : Int) + 1 < (d.size : Int) := by omega
          have jz1 : (jp : Int) < (d.size : Int) := by omega
          have hjaz' : (a : Int) < (jp : Int) + 1 := by omega
          have p0 : (0 : Int) ≤ (jp : Int) + 1 := by omega
          have e0 : ((jp : Int) + 1).toNat = jp + 1 := by omega
          -- every world of the class is one of the sort's
          have hcls : ∀ n' os', grow ((sortWorldK enc k w blk off m dj oj).drewN n') os' = sortWorldK enc k w blk off (m + n') dj (oj ++ os') := fun n' os' => sortWorldK_grown_c enc k w blk off m n' dj oj os'
          have hHc : ∀ n' os', HoldsK enc k (grow ((sortWorldK enc k w blk off m dj oj).drewN n') os') blk off dj := fun n' os' => by rw [hcls]; exact holdsK_sortWorldK_c enc k w blk off d dj _ _ HH.out hblk hsj
          have lj : ∀ n' os', Sem.run P (loadCellsFrom ⟨blk, off + (jp + 1) * k, none⟩ 0 k #[]) (grow ((sortWorldK enc k w blk off m dj oj).drewN n') os') = .ok (enc xj).toArray (grow ((sortWorldK enc k w blk off m dj oj).drewN n') os') := fun n' os' => by
            rw [← hxj]; exact run_loadCellsFrom_list P _ _ _ k (HK.out _) (HoldsK.cells (hHc n' os') HK.out (by omega))
          have lp : ∀ n' os', Sem.run P (loadCellsFrom ⟨blk, off + jp * k, none⟩ 0 k #[]) (grow ((sortWorldK enc k w blk off m dj oj).drewN n') os') = .ok (enc xp).toArray (grow ((sortWorldK enc k w blk off m dj oj).drewN n') os') := fun n' os' => by
            rw [← hxp]; exact run_loadCellsFrom_list P _ _ _ k (HK.out _) (HoldsK.cells (hHc n' os') HK.out (by omega))
          have hcg : ∀ n' os', Calls P g (#[.agg (enc xj).toArray, .agg (enc xp).toArray] ++ cb) (grow ((sortWorldK enc k w blk off m dj oj).drewN n') os') fun e w' => e = .returned (.int .i64 (cf xj xp)) ∧ ∃ q os'', w' = grow ((grow ((sortWorldK enc k w blk off m dj oj).drewN n') os').drewN q) os'' := fun n' os' => by
            rw [hcls]; exact HC.out _ _ dj hsj xj xp
          have CLS : Hid _ := hcls
          clear hcls hHc
          generalize hwq : sortWorldK enc k w blk off m dj oj = wq at lj lp hcg CLS ⊢
          by_cases hlv : cf xj xp < 0
          · go_wp2_with fail
            go_quiet_grown (first | (go_at_fn g; refine Calls.grown_of (hcg _ _)))
            go_wp2_with fail
            have hw2 : grow (wq.drewN nq) osq = sortWorldK enc k w blk off (m + nq) dj (oj ++ osq) := CLS.out nq osq
            have hHd : HoldsK enc k (grow (wq.drewN nq) osq).drew blk off dj := by
              have : HoldsK enc k (grow (wq.drewN nq) osq) blk off dj := by rw [hw2]; exact holdsK_sortWorldK_c enc k w blk off d dj _ _ HH.out hblk hsj
              exact this
            have bnd : ∀ x, x < dj.size → x * k + k ≤ dj.size * k := fun x hx => by
              have := Nat.mul_le_mul_right k (show x + 1 ≤ dj.size from hx); rwa [Nat.add_mul, Nat.one_mul] at this
            clear lj lp hcg
            generalize grow (wq.drewN nq) osq = wq2 at hw2 hHd ⊢
            have lj2 : Sem.run P (loadCellsFrom ⟨blk, off + (jp + 1) * k, none⟩ 0 k #[]) wq2.drew = .ok (enc xj).toArray wq2.drew := by rw [← hxj]; exact run_loadCellsFrom_list P _ _ _ k (HK.out _) (HoldsK.cells hHd HK.out (by omega))
            have lp2 : Sem.run P (loadCellsFrom ⟨blk, off + jp * k, none⟩ 0 k #[]) wq2.drew = .ok (enc xp).toArray wq2.drew := by rw [← hxp]; exact run_loadCellsFrom_list P _ _ _ k (HK.out _) (HoldsK.cells hHd HK.out (by omega))
            have s1 : Sem.run P (storeCells ⟨blk, off + (jp + 1) * k, none⟩ (enc xp) 0) wq2.drew = .ok () (wq2.drew.setCells blk (off + (jp + 1) * k) (enc xp)) := stores_of_holds P hHd ((jp + 1) * k) _ (by rw [HK.out, size_flatK]; exact bnd (jp + 1) (by omega)) (H1.out _)
            have s2 : Sem.run P (storeCells ⟨blk, off + jp * k, none⟩ (enc xj) 0) (wq2.drew.setCells blk (off + (jp + 1) * k) (enc xp)) = .ok () ((wq2.drew.setCells blk (off + (jp + 1) * k) (enc xp)).setCells blk (off + jp * k) (enc xj)) :=
              stores_of_holds P (holds_setCells_c hHd ((jp + 1) * k) _ (by rw [HK.out, size_flatK]; exact bnd (jp + 1) (by omega))) (jp * k) _ (by rw [HK.out, size_setMany, size_flatK]; exact bnd jp (by omega)) (H1.out _)
            have hsJ : (enc xj).length = k := HK.out _
            have hsP : (enc xp).length = k := HK.out _
            have HW2 : Hid (wq2 = sortWorldK enc k w blk off (m + nq) dj (oj ++ osq)) := hw2
            clear hw2 hHd bnd
            obtain ⟨cJ, hcJ⟩ : ∃ c, c = enc xj := ⟨_, rfl⟩
            obtain ⟨cP, hcP⟩ : ∃ c, c = enc xp := ⟨_, rfl⟩
            rw [← hcP] at s1 lp2 hsP
            rw [← hcJ] at lj2 hsJ
            rw [← hcJ, ← hcP] at s2
            have CC : Hid (cJ = enc xj ∧ cP = enc xp) := ⟨hcJ, hcP⟩
            clear hcJ hcP
            go_big_region_o
            all_goals go_wp2
            go_roundg jp
            case measure => omega
            case rel =>
              refine ⟨jp, m + nq + 1, swp dj (jp + 1) jp, oj ++ osq, by first | rfl | go_num | (congr 1; omega), by omega, by omega, Nat.le_refl _, by rw [size_swp]; exact hsj, ?_, (show Hid _ from ?_)⟩
              · rw [CC.out.1, CC.out.2, HW2.out, ← hxp, ← hxj]
                exact sortWorldK_swp_c enc k w blk off HK.out (m + nq) dj (oj ++ osq) hblk (jp + 1) jp (by omega) (by omega)
              · show _ = _
                have := insInner_go (ltOf cf) a (jp + 1) dj hja (by simp only [Nat.add_sub_cancel]; rw [hxj, hxp]; exact decide_eq_true hlv)
                simp only [Nat.add_sub_cancel] at this
                rw [← HI.out, this]
          · -- not less: out of the inner loop
            go_wp2_with fail
            go_quiet_grown (first | (go_at_fn g; refine Calls.grown_of (hcg _ _)))
            go_wp2
            go_roundg (b - (i + 1))
            case measure => omega
            case rel => exact ⟨i + 1, _, dj, _, by go_num, by omega, by omega, by omega, hsj, CLS.out nq osq, OUT.out (Or.inr (by simp only [Nat.add_sub_cancel]; rw [hxj, hxp]; exact decide_eq_false (by omega)))⟩
        · -- j = a: out of the inner loop (the guard is false: 'cmp' is not called)
          have hjaz : decide ((j : Int) > (a : Int)) = false := decide_eq_false (by omega)
          have hjaz' : ¬ (a : Int) < (j : Int) := by omega
          have hdr : (sortWorldK enc k w blk off m dj oj).drew = sortWorldK enc k w blk off (m + 1) dj oj := rfl
          generalize hwq : sortWorldK enc k w blk off m dj oj = wq at hdr
          have HDR : Hid _ := hdr
          clear hdr
          go_wp2_with fail
          go_big_region_o
          all_goals go_wp2
          go_roundg (b - (i + 1))
          case measure => omega
          case rel => exact ⟨i + 1, m + 1, dj, oj, by go_num, by omega, by omega, by omega, hsj, HDR.out, OUT.out (Or.inl (by omega))⟩
    · have hltz : ¬ (i : Int) < (b : Int) := by omega
      go_wp2
      go_end0
      exact ⟨rfl, n, os, by unfold Sort.insertionSort; rw [← HO.out, insOuter_stop _ _ _ _ _ hlt]⟩
end
end StabAt
end Go.Proofs.Ytcpnfcnobnjhdaa

/- The library's stable sort of shop.at: the whole. -/
namespace Go.Proofs.Ytcpnfcnobnjhdaa
open Go Go.Sort Go.RowKit Go.Lib Go.Shelf Go.Proofs
namespace StabAt
variable {P : Program}
section
variable {α : Type} [Inhabited α] {k : Nat} (L : Lay P k) (enc0 : α → List Value) (hk : ∀ x, (enc0 x).length = k) (h1 : ∀ x, ∀ v ∈ enc0 x, v.oneCell' = true) (cf0 : α → α → Int)
theorem ltOf_T {α : Type} (cf0 : α → α → Int) : ltOf (cfT cf0) = ltT (ltF cf0) := rfl
include L hk h1
-- one call of insertion: from place a to place b of dk, in the world wq; HQ; hpt: the tags from a on
theorem ins_step (hS : SWO (ltF cf0)) (g : Nat) (cb : Array Value) (blk off cap a b : Nat) (d dk : Array (α × Nat)) (w wq : World) (q : Nat) (os : Array Obj) (eg : ∀ args w, (callFunc g args).run P w = .ok (.enter g args) w)
    (hcmp : Cmp P g cb (encT enc0) k (cfT cf0) blk off d.size w) (hH : HoldsK (encT enc0) k w blk off d) (hblk : blk < w.heap.size) (hab : a ≤ b) (hb : b ≤ d.size) (hsz : d.size ≤ 1000000000) (hs : dk.size = d.size) (hq : wq = SW (encT enc0) k w blk off q dk os)
    (ht : ∀ p q, a ≤ p → p < q → q < b → dk[p]!.2 < dk[q]!.2) :
    Calls P 93 #[.slice (some ⟨blk, off, none⟩) d.size cap, .int .i64 a, .int .i64 b, .func (.func g) #[] cb] wq fun e w' =>
      e = .returned (.tuple #[]) ∧ ∃ q r os, w' = SW (encT enc0) k w blk off q r os ∧ PermIn a b dk r ∧ TS (ltF cf0) a b r := by
  have C := insertion_any L (encT enc0) (fun x => hk x.1) (fun x => h1 x.1) (cfT cf0) g cb blk off cap a b dk wq eg (by rw [hs, hq]; exact cmp_again hcmp hblk q dk os hs) (by rw [hq]; exact SW_holds hH hblk q dk os hs) (by rw [hq]; exact SW_lt hblk q dk os) hab (by omega) (by omega)
  rw [hs] at C
  refine C.mono ?_
  rintro e w' ⟨rfl, n, os', hw⟩
  obtain ⟨t1, t2⟩ := ins_sorted hS hab (by omega : b ≤ dk.size) ht
  rw [ltOf_T] at hw
  refine ⟨rfl, q + n, _, os ++ os', ?_, t2, t1⟩
  rw [hw, hq]
  exact SW_again (encT enc0) k w blk off q n dk _ os os' hblk t2.1
theorem merge_step (hS : SWO (ltF cf0)) (g : Nat) (cb : Array Value) (blk off cap a m b : Nat) (d dk : Array (α × Nat)) (w wq : World) (q : Nat) (os : Array Obj) (eg : ∀ args w, (callFunc g args).run P w = .ok (.enter g args) w)
    (hcmp : Cmp P g cb (encT enc0) k (cfT cf0) blk off d.size w) (hH : HoldsK (encT enc0) k w blk off d) (hblk : blk < w.heap.size) (ham : a < m) (hmb : m < b) (hb : b ≤ d.size) (hsz : d.size ≤ 1000000000) (hs : dk.size = d.size) (hq : wq = SW (encT enc0) k w blk off q dk os)
    (hP : Parts (ltF cf0) a m b dk) :
    Calls P 94 #[.slice (some ⟨blk, off, none⟩) d.size cap, .int .i64 a, .int .i64 m, .int .i64 b, .func (.func g) #[] cb] wq fun e w' =>
      e = .returned (.tuple #[]) ∧ ∃ q r os, w' = SW (encT enc0) k w blk off q r os ∧ PermIn a b dk r ∧ TS (ltF cf0) a b r := by
  have C := symMerge_any L enc0 hk h1 cf0 hS g cb blk off cap eg (b - a) a m b dk wq (Nat.le_refl _) (by rw [hs, hq]; exact cmp_again hcmp hblk q dk os hs) (by rw [hq]; exact SW_holds hH hblk q dk os hs) (by rw [hq]; exact SW_lt hblk q dk os) ham hmb (by omega) (by omega) hP
  rw [hs] at C
  refine C.mono ?_
  rintro e w' ⟨rfl, n, r, os', hw, hp, ht⟩
  refine ⟨rfl, q + n, r, os ++ os', ?_, hp, ht⟩
  rw [hw, hq]
  exact SW_again (encT enc0) k w blk off q n dk r os os' hblk hp.1
set_option maxHeartbeats 8000000 in
set_option maxRecDepth 1000000 in
theorem stable_any (hS : SWO (ltF cf0)) (g : Nat) (cb : Array Value) (blk off cap : Nat) (d : Array (α × Nat)) (w : World) (eg : ∀ args w, (callFunc g args).run P w = .ok (.enter g args) w)
    (hcmp : Cmp P g cb (encT enc0) k (cfT cf0) blk off d.size w) (hH : HoldsK (encT enc0) k w blk off d) (hblk : blk < w.heap.size) (hsz : d.size ≤ 1000000000) (ht : ∀ i, i < d.size → d[i]!.2 = i) :
    Calls P 89 #[.slice (some ⟨blk, off, none⟩) d.size cap, .int .i64 d.size, .func (.func g) #[] cb] w (Sorted_ (ltF cf0) (encT enc0) k w blk off 0 d.size d) := by
  have INS := hide (fun (a b : Nat) (dk : Array (α × Nat)) (wq : World) (q : Nat) (os : Array Obj) => ins_step L enc0 hk h1 cf0 hS g cb blk off cap a b d dk w wq q os eg hcmp hH hblk)
  have MRG := hide (fun (a m b : Nat) (dk : Array (α × Nat)) (wq : World) (q : Nat) (os : Array Obj) => merge_step L enc0 hk h1 cf0 hS g cb blk off cap a m b d dk w wq q os eg hcmp hH hblk)
  have HST : Hid (w = SW (encT enc0) k w blk off 0 d #[]) := SW_start hH
  have HT := hide ht
  obtain ⟨enc, henc⟩ : ∃ enc, enc = encT enc0 := ⟨_, rfl⟩
  rw [← henc] at INS MRG HST ⊢
  obtain ⟨n, hn⟩ : ∃ n, n = d.size := ⟨_, rfl⟩
  rw [← hn] at INS MRG hsz HT ⊢
  have HN := hide hn
  have mixed := L.mixed; have tS := L.tS; have aS := L.aS; have zS := L.zS; have vS := L.vS; have t3 := L.t3; have a3 := L.a3; have z3 := L.z3; have v3 := L.v3; have t4 := L.t4; have a4 := L.a4; have z4 := L.z4; have v4 := L.v4; have aE := L.aE; have zE := L.zE; have tU := L.tU; have aU := L.aU; have zU := L.zU; have vU := L.vU
  have uS := run_underlying L.tS
  have eIns := L.eIns; have eSwr := L.eSwr; have eRot := L.eRot; have eSym := L.eSym; have eStb := L.eStb
  clear hk h1 hcmp hH hS ht henc hn
  go_enter L.fStb, Try.ntmps89
  go_wp2
  go_loopg [7, 8] n (fun g1 va vb wr => ∃ (c a q : Nat) (os : Array Obj) (dk : Array (α × Nat)), va = .int .i64 a ∧ vb = .int .i64 ((a + 20 : Nat) : Int) ∧ a = c * 20 ∧ a ≤ n ∧ n - a ≤ g1 ∧ Hid (wr = SW enc k w blk off q dk os) ∧ Hid (BSt (ltF cf0) 20 0 a dk) ∧ Hid (PermIn 0 n d dk) ∧ Hid (BTg 20 n dk) ∧ Hid (∀ i, a ≤ i → i < n → dk[i]! = d[i]!))
  case atStart => exact ⟨0, 0, 0, #[], d, rfl, rfl, by omega, by omega, by omega, HST, hide fun i j h1 h2 h3 => by omega, hide (permIn_refl d 0 n), hide (BTg.one HT.out 20), hide fun i h1 h2 => rfl⟩
  case round =>
    obtain ⟨c, a, q, os, dk, rfl, rfl, ha, han, hg1, HQ, HB, HP, HG, HD⟩ := hrel
    have HA := hide ha
    clear ha
    generalize wr = wq at *
    have hs : dk.size = n := HP.out.1.trans HN.out.symm
    have htg : ∀ e, a ≤ e → e ≤ n → ∀ p q, a ≤ p → p < q → q < e → dk[p]!.2 < dk[q]!.2 := fun e _ h0 p q h1 h2 h3 => by
      rw [HD.out p h1 (by omega), HD.out q (by omega) (by omega), HT.out p (by omega), HT.out q (by omega)]; exact h2
    have HTG := hide htg
    clear htg
    by_cases hlt : a + 20 ≤ n
    · have C := INS.out a (a + 20) dk wq q os (by omega) (by omega) hsz hs HQ.out (HTG.out _ (by omega) hlt)
      go_wp2_with fail
      refine C.mono ?_
      rintro e w2 ⟨rfl, q2, r, os2, hw2, hp2, ht2⟩
      have HW2 := hide hw2
      have HP2 := hide hp2
      have HT2 := hide ht2
      clear hw2 hp2 ht2 C
      go_wp2
      go_roundg (n - (a + 20))
      case measure => omega
      case rel =>
        refine ⟨c + 1, a + 20, q2, os2, r, rfl, by go_num, by have := HA.out; omega, hlt, Nat.le_refl _, HW2, hide (BSt.step HA.out (by omega) (Nat.le_refl _) HB.out HP2.out HT2.out), hide (permIn_trans _ _ _ _ _ HP.out (permIn_mono _ _ a (a + 20) 0 n (by omega) hlt (by omega) HP2.out)), hide (BTg.step HA.out (Nat.le_refl _) hlt (by omega) HG.out HP2.out), hide fun i h1 h2 => ?_⟩
        rw [HP2.out.2.1 i (.inr h1)]; exact HD.out i (by omega) h2
    · have C := INS.out a n dk wq q os (by omega) (by omega) hsz hs HQ.out (HTG.out _ han (Nat.le_refl _))
      have hlt' : ¬ (((a + 20 : Nat) : Int) ≤ (n : Int)) := by omega
      go_wp2_with fail
      refine C.mono ?_
      rintro e w2 ⟨rfl, q2, r, os2, hw2, hp2, ht2⟩
      have HB2 : Hid (BSt (ltF cf0) 20 0 n r) := BSt.step HA.out (by omega) (by omega) HB.out hp2 ht2
      have HP3 : Hid (PermIn 0 n d r) := permIn_trans _ _ _ _ _ HP.out (permIn_mono _ _ a n 0 n (by omega) (Nat.le_refl _) (by omega) hp2)
      have HG2 : Hid (BTg 20 n r) := BTg.step HA.out (by omega) (Nat.le_refl _) (by omega) HG.out hp2
      have HW2 := hide hw2
      clear hw2 hp2 ht2 C HQ HB HP HG HD HTG hs
      go_wp2
      generalize w2 = wq at HW2
      go_loopg [6] n (fun g2 vs wr => ∃ (bs q : Nat) (os : Array Obj) (dk : Array (α × Nat)), vs = .int .i64 bs ∧ 20 ≤ bs ∧ bs ≤ 2 * n + 20 ∧ n - bs ≤ g2 ∧ Hid (wr = SW enc k w blk off q dk os) ∧ Hid (BSt (ltF cf0) bs 0 n dk) ∧ Hid (PermIn 0 n d dk) ∧ Hid (BTg bs n dk))
      case atStart => exact ⟨20, q2, os2, r, rfl, by omega, by omega, by omega, HW2, HB2, HP3, HG2⟩
      case round =>
        clear HW2 HB2 HP3 HG2 HA
        obtain ⟨bs, q, os, dk, rfl, hbs, hbs2, hg2, HQ, HB, HP, HG⟩ := hrel
        generalize wr = wq at *
        by_cases hlt2 : bs < n
        · go_wp2
          have hm2 : ((2 * bs : Nat) : Int) = 2 * (bs : Int) := by omega
          go_loopg [7, 8] n (fun g3 va vb wr => ∃ (c a q : Nat) (os : Array Obj) (dk : Array (α × Nat)), va = .int .i64 a ∧ vb = .int .i64 ((a + 2 * bs : Nat) : Int) ∧ a ≤ n ∧ n - a ≤ g3 ∧ Hid (a = c * (2 * bs)) ∧ Hid (wr = SW enc k w blk off q dk os) ∧ Hid (PermIn 0 n d dk) ∧ Hid (BSt (ltF cf0) (2 * bs) 0 a dk) ∧ Hid (∀ i j, a ≤ i → i < j → j < n → i / bs = j / bs → TL (ltF cf0) dk[i]! dk[j]!) ∧ Hid (BTg (2 * bs) n dk) ∧ Hid (∀ i, a ≤ i → i < n → dk[i]!.2 / bs = i / bs))
          case atStart => exact ⟨0, 0, q, os, dk, rfl, by go_num, by omega, by omega, hide (by omega), HQ, HP, hide fun i j h1 h2 h3 => by omega, hide fun i j h1 h2 h3 => HB.out i j (by omega) h2 h3, hide HG.out.half, hide fun i h1 h2 => HG.out i h2⟩
          case round =>
            clear HQ HB HP HG
            obtain ⟨c, a, q, os, dk, rfl, rfl, han, hg3, HA, HQ, HP, HB2, HB1, HG2, HG1⟩ := hrel
            generalize wr = wq at *
            have hs : dk.size = n := HP.out.1.trans HN.out.symm
            by_cases hlt : a + 2 * bs ≤ n
            · have hlt' : ((a + 2 * bs : Nat) : Int) ≤ (n : Int) := by omega
              have HPT := parts_of HA.out (e := a + 2 * bs) (by omega) (Nat.le_refl _) hlt (by omega) HB1.out HG1.out
              have C := MRG.out a (a + bs) (a + 2 * bs) dk wq q os (by omega) (by omega) hlt hsz hs HQ.out HPT
              have e1 : ((a + bs : Nat) : Int) = (a : Int) + (bs : Int) := by omega
              rw [e1] at C
              go_wp2_with fail
              refine C.mono ?_
              rintro e w2 ⟨rfl, q2, r, os2, hw2, hp2, ht2⟩
              have HW2 := hide hw2
              have HP2 := hide hp2
              have HT2 := hide ht2
              clear hw2 hp2 ht2 C HPT e1
              go_wp2
              go_roundg (n - (a + 2 * bs))
              case measure => omega
              case rel =>
                refine ⟨c + 1, a + 2 * bs, q2, os2, r, rfl, by go_num, hlt, Nat.le_refl _, hide (by rw [Nat.add_mul, ← HA.out, Nat.one_mul]), HW2, hide (permIn_trans _ _ _ _ _ HP.out (permIn_mono _ _ a (a + 2 * bs) 0 n (by omega) hlt (by omega) HP2.out)), hide (BSt.step HA.out (by omega) (Nat.le_refl _) HB2.out HP2.out HT2.out), hide fun i j h1 h2 h3 h4 => ?_, hide (BTg.step HA.out (Nat.le_refl _) hlt (by omega) HG2.out HP2.out), hide fun i h1 h2 => ?_⟩
                · rw [HP2.out.2.1 i (.inr h1), HP2.out.2.1 j (.inr (by omega))]; exact HB1.out i j (by omega) h2 h3 h4
                · rw [HP2.out.2.1 i (.inr h1)]; exact HG1.out i (by omega) h2
            · have hlt' : ¬ (((a + 2 * bs : Nat) : Int) ≤ (n : Int)) := by omega
              by_cases hm : a + bs < n
              · have HPT := parts_of HA.out (e := n) hm (by omega) (Nat.le_refl _) (by omega) HB1.out HG1.out
                have C := MRG.out a (a + bs) n dk wq q os (by omega) hm (Nat.le_refl _) hsz hs HQ.out HPT
                have e1 : ((a + bs : Nat) : Int) = (a : Int) + (bs : Int) := by omega
                rw [e1] at C
                go_wp2_with fail
                refine C.mono ?_
                rintro e w2 ⟨rfl, q2, r, os2, hw2, hp2, ht2⟩
                have HW2 := hide hw2
                have HP2 := hide hp2
                have HT2 := hide ht2
                clear hw2 hp2 ht2 C HPT e1
                go_wp2
                go_roundg (n - 2 * bs)
                case measure => omega
                case rel =>
                  exact ⟨2 * bs, q2, os2, r, by go_num, by omega, by omega, Nat.le_refl _, HW2, hide (BSt.step HA.out (by omega) (by omega) HB2.out HP2.out HT2.out), hide (permIn_trans _ _ _ _ _ HP.out (permIn_mono _ _ a n 0 n (by omega) (Nat.le_refl _) (by omega) HP2.out)), hide (BTg.step HA.out (by omega) (Nat.le_refl _) (by omega) HG2.out HP2.out)⟩
              · go_wp2
                go_roundg (n - 2 * bs)
                case measure => omega
                case rel =>
                  exact ⟨2 * bs, q, os, dk, by go_num, by omega, by omega, Nat.le_refl _, HQ, hide (BSt.rest HA.out (by omega) HB2.out HB1.out), HP, HG2⟩
        · go_wp2
          go_end0
          exact ⟨rfl, q, dk, os, HQ.out, HP.out, BSt.all HB.out (by omega)⟩
set_option maxHeartbeats 2000000 in
/-- THE CONTRACT of slices.SortStableFunc -/
theorem sortStable_any (hS : SWO (ltF cf0)) (g : Nat) (cb : Array Value) (blk off cap : Nat) (d : Array (α × Nat)) (w : World) (eg : ∀ args w, (callFunc g args).run P w = .ok (.enter g args) w)
    (hcmp : Cmp P g cb (encT enc0) k (cfT cf0) blk off d.size w) (hH : HoldsK (encT enc0) k w blk off d) (hblk : blk < w.heap.size) (hsz : d.size ≤ 1000000000) (ht : ∀ i, i < d.size → d[i]!.2 = i) :
    Calls P 82 #[.slice (some ⟨blk, off, none⟩) d.size cap, .func (.func g) #[] cb] w (Sorted_ (ltF cf0) (encT enc0) k w blk off 0 d.size d) := by
  have C := stable_any L enc0 hk h1 cf0 hS g cb blk off cap d w eg hcmp hH hblk hsz ht
  generalize d.size = n at *
  have mixed := L.mixed; have tS := L.tS; have aS := L.aS; have zS := L.zS; have vS := L.vS; have t3 := L.t3; have a3 := L.a3; have z3 := L.z3; have v3 := L.v3; have t4 := L.t4; have a4 := L.a4; have z4 := L.z4; have v4 := L.v4; have aE := L.aE; have zE := L.zE; have tU := L.tU; have aU := L.aU; have zU := L.zU; have vU := L.vU
  have uS := run_underlying L.tS
  have eIns := L.eIns; have eSwr := L.eSwr; have eRot := L.eRot; have eSym := L.eSym; have eStb := L.eStb
  clear hk h1 hcmp hH hS ht
  go_enter L.fTop, Try.ntmps82
  go_wp2_with fail
  refine C.mono ?_
  rintro e w2 ⟨rfl, h⟩
  have HH := hide h
  clear h C
  go_wp2
  go_end0
  exact ⟨rfl, HH.out⟩
end
end StabAt
end Go.Proofs.Ytcpnfcnobnjhdaa

/- What a call has turned: blocks of a set, and new ones. -/
namespace Go.Proofs.Ytcpnfcnobnjhdaa
open Go.RowKit
structure Chg (S : Nat → Prop) (w w' : World) : Prop where
  os : w'.os = w.os
  tape : w'.tape = w.tape
  output : w'.output = w.output
  size : w.heap.size ≤ w'.heap.size
  block : ∀ k, k < w.heap.size → ¬ S k → w'.heap[k]? = w.heap[k]?
section
variable {S : Nat → Prop} {a b c w w' : World}
theorem Chg.refl (S : Nat → Prop) (w : World) : Chg S w w := ⟨rfl, rfl, rfl, Nat.le_refl _, fun _ _ _ => rfl⟩
theorem Chg.trans (h : Chg S a b) (k : Chg S b c) : Chg S a c :=
  ⟨k.os.trans h.os, k.tape.trans h.tape, k.output.trans h.output, Nat.le_trans h.size k.size, fun i hi hn => (k.block i (Nat.lt_of_lt_of_le hi h.size) hn).trans (h.block i hi hn)⟩
theorem Chg.mono {T : Nat → Prop} (h : Chg S a b) (hST : ∀ k, k < a.heap.size → S k → T k) : Chg T a b := ⟨h.os, h.tape, h.output, h.size, fun i hi hn => h.block i hi fun hs => hn (hST i hi hs)⟩
theorem Chg.trans' {T : Nat → Prop} (h : Chg S a b) (k : Chg T b c) (hT : ∀ i, i < a.heap.size → T i → S i) : Chg S a c :=
  ⟨k.os.trans h.os, k.tape.trans h.tape, k.output.trans h.output, Nat.le_trans h.size k.size, fun i hi hn => (k.block i (Nat.lt_of_lt_of_le hi h.size) fun ht => hn (hT i hi ht)).trans (h.block i hi hn)⟩
theorem Chg.of_below (h : Below a.heap.size a b) : Chg S a b := ⟨h.os, h.tape, h.output, h.size, fun i hi _ => h.block i hi⟩
theorem Chg.of_grown {r : Nat} (h : a.grownBy b (some r)) (hr : S r) : Chg S a b := ⟨h.os, h.tape, h.output, h.size, fun i hi hn => h.block i hi fun e => hn (by injection e with e; exact e ▸ hr)⟩
theorem Chg.to_below {B : Nat} (h : Chg S a b) (hB : B ≤ a.heap.size) (hS : ∀ k, k < B → ¬ S k) : Below B a b := ⟨h.os, h.tape, h.output, h.size, fun i hi => h.block i (by omega) (hS i hi)⟩
theorem Chg.drew (h : Chg S a b) : Chg S a b.drew := ⟨h.os, h.tape, h.output, h.size, h.block⟩
theorem Chg.alloc (h : Chg S a b) (o : Obj) : Chg S a (b.alloc o) := h.trans (.of_below ((Below.refl _ _).alloc (Nat.le_refl _) o))
theorem Chg.setCell (h : Chg S a b) {p : Addr} (hp : S p.block ∨ a.heap.size ≤ p.block) (u : Value) : Chg S a (b.setCell p u) :=
  ⟨h.os, h.tape, h.output, by simpa [World.setCell] using h.size, fun i hi hn => (Below.heap_setCell b p u i (by
    rintro rfl
    rcases hp with hp | hp
    · exact hn hp
    · omega)).trans (h.block i hi hn)⟩
end
theorem Blk.chg {S : Nat → Prop} {w w' : World} {b : Nat} {t : TypeId} {cs : Array Value} (h : Blk w b t cs) (hc : Chg S w w') (hn : ¬ S b) : Blk w' b t cs := (hc.block b h.lt hn).trans h
theorem Blk.chg1 {g : Nat} {w w' : World} {b : Nat} {t : TypeId} {cs : Array Value} (h : Blk w b t cs) (hc : Chg (fun k => k = g) w w') (hn : b ≠ g) : Blk w' b t cs := (hc.block b h.lt hn).trans h
theorem Chg.below1 {g B : Nat} {w w' : World} (hc : Chg (fun k => k = g) w w') (hB : B ≤ w.heap.size) (hg : B ≤ g) : Below B w w' := hc.to_below hB fun k hk he => by subst he; omega
theorem Chg.set1 {w : World} {g i : Nat} (u : Value) : Chg (fun k => k = g) w (w.setCell ⟨g, i, none⟩ u) := (Chg.refl (fun k => k = g) w).setCell (p := ⟨g, i, none⟩) (.inl rfl) u
theorem Chg.row1 {w : World} {g : Nat} (cs : Array Value) : Chg (fun k => k = g) w (w.setRow g cs) := ⟨rfl, rfl, rfl, by simp, fun k _ hk => setRow_other w g k cs hk⟩
theorem Chg.of_below' {S : Nat → Prop} {B : Nat} {a b : World} (h : Below B a b) (hS : ∀ k, B ≤ k → k < a.heap.size → S k) : Chg S a b := ⟨h.os, h.tape, h.output, h.size, fun i hi hn => h.block i (by
  rcases Nat.lt_or_ge i B with h1 | h1
  · exact h1
  · exact absurd (hS i h1 hi) hn)⟩
end Go.Proofs.Ytcpnfcnobnjhdaa

/- right of package shop: the plan's steps in the order of their starts. -/
namespace Go.Proofs.Ytcpnfcnobnjhdaa
open Go Go.Sort Go.RowKit StabAt
theorem isNaN_any (a : Int) (w : World) : Calls Try.prog 92 #[.int .i64 a] w fun e w' => e = .returned (.bool false) ∧ w = w' := by
  go_enter Try.func92, Try.ntmps92
  go_wp2
  go_ret
  exact ⟨by simp, rfl⟩
theorem compare_any (a b : Int) (w : World) : Calls Try.prog 90 #[.int .i64 a, .int .i64 b] w fun e w' => e = .returned (.int .i64 (cmpI a b)) ∧ w = w' := by
  have HC : Hid (cmpI a b = if a < b then -1 else if b < a then 1 else 0) := rfl
  by_cases h1 : a < b
  · go_enter Try.func90, Try.ntmps90
    go_wp2_with fail
    refine (isNaN_any _ _).mono ?_
    rintro e W' ⟨rfl, rfl⟩
    go_wp2_with fail
    refine (isNaN_any _ _).mono ?_
    rintro e W' ⟨rfl, rfl⟩
    go_wp2_with fail
    go_ret
    exact ⟨ret_int (by rw [HC.out, if_pos h1]), rfl⟩
  · by_cases h2 : b < a
    · go_enter Try.func90, Try.ntmps90
      go_wp2_with fail
      refine (isNaN_any _ _).mono ?_
      rintro e W' ⟨rfl, rfl⟩
      go_wp2_with fail
      refine (isNaN_any _ _).mono ?_
      rintro e W' ⟨rfl, rfl⟩
      go_wp2_with fail
      go_ret
      exact ⟨ret_int (by rw [HC.out, if_neg (by omega), if_pos h2]), rfl⟩
    · go_enter Try.func90, Try.ntmps90
      go_wp2_with fail
      refine (isNaN_any _ _).mono ?_
      rintro e W' ⟨rfl, rfl⟩
      go_wp2_with fail
      refine (isNaN_any _ _).mono ?_
      rintro e W' ⟨rfl, rfl⟩
      go_wp2_with fail
      go_ret
      exact ⟨ret_int (by rw [HC.out, if_neg (by omega), if_neg (by omega)]), rfl⟩
theorem before_any (x y : At) (w : World) : Calls Try.prog 83 #[.agg #[.int .i64 x.j, .int .i64 x.k, .int .i64 x.t, .int .i64 x.x.m, .int .i64 x.x.mi, .int .i64 x.x.c, .int .i64 x.x.d], .agg #[.int .i64 y.j, .int .i64 y.k, .int .i64 y.t, .int .i64 y.x.m, .int .i64 y.x.mi, .int .i64 y.x.c, .int .i64 y.x.d]] w fun e w' => e = .returned (.int .i64 (cmpI x.t y.t)) ∧ (w.alloc (.cells #[.int .i64 x.j, .int .i64 x.k, .int .i64 x.t, .int .i64 x.x.m, .int .i64 x.x.mi, .int .i64 x.x.c, .int .i64 x.x.d] 91)).alloc (.cells #[.int .i64 y.j, .int .i64 y.k, .int .i64 y.t, .int .i64 y.x.m, .int .i64 y.x.mi, .int .i64 y.x.c, .int .i64 y.x.d] 91) = w' := by
  go_enter Try.func83, Try.ntmps83
  go_wp2_with fail
  refine (compare_any _ _ _).mono ?_
  rintro e w' ⟨rfl, rfl⟩
  go_wp2_with fail
  go_ret
  exact ⟨rfl, rfl⟩
theorem cmp_at (blk off size : Nat) (w : World) : Cmp Try.prog 83 #[] (encT At.enc) 7 (cfT cfA) blk off size w := fun m os dk _ x y => by
  refine (before_any x.1 y.1 _).mono fun e w' ⟨he, hw⟩ => ⟨he, 0, #[.cells #[.int .i64 x.1.j, .int .i64 x.1.k, .int .i64 x.1.t, .int .i64 x.1.x.m, .int .i64 x.1.x.mi, .int .i64 x.1.x.c, .int .i64 x.1.x.d] 91, .cells #[.int .i64 y.1.j, .int .i64 y.1.k, .int .i64 y.1.t, .int .i64 y.1.x.m, .int .i64 y.1.x.mi, .int .i64 y.1.x.c, .int .i64 y.1.x.d] 91], ?_⟩
  rw [← hw, alloc_eq_grow, alloc_eq_grow, grow_grow]
  rfl
theorem lay_at : Lay Try.prog 7 := by
  constructor
  all_goals first | (by_cases True <;> kernel_rfl) | (intros; kernel_rfl) | kernel_rfl
/-- the cells that the list owns are what the sort asks for -/
theorem holds_of {w : World} {base g c : Nat} {l : List At} (h : Own w base 91 7 At.enc (.slice (some ⟨g, 0, none⟩) l.length c) l) (hl : 0 < l.length) : HoldsK (encT At.enc) 7 w g 0 (tagged l) := by
  rcases h.2 with ⟨h1, _⟩ | ⟨g', cap, cur, h1, h2, h3, h4, h5, h6, h7⟩
  · cases h1
  · injection h1 with h1
    injection h1 with h1
    injection h1 with h1
    subst h1
    intro j hj
    have hj' : j < l.length * 7 := by simpa [flatK, tagged_size] using hj
    have hi : j / 7 < l.length := by omega
    have hli : l[j / 7]? = some l[j / 7] := List.getElem?_eq_getElem hi
    have hf : (flatK (encT At.enc) 7 (tagged l))[j]! = (At.enc l[j / 7])[j % 7]! := by
      rw [get_flatK _ _ _ _ (by rw [tagged_size]; exact hj'), tagged_at hli]
      rfl
    have hen : (At.enc l[j / 7])[j % 7]? = some (At.enc l[j / 7])[j % 7]! := by
      have : j % 7 < 7 := Nat.mod_lt _ (by omega)
      generalize j % 7 = q at *
      match q, this with
      | 0, _ => rfl
      | 1, _ => rfl
      | 2, _ => rfl
      | 3, _ => rfl
      | 4, _ => rfl
      | 5, _ => rfl
      | 6, _ => rfl
    have h8 := flat_at (n := 7) (fun _ => rfl) l (j / 7) _ hli (j % 7) _ hen
    rw [show j / 7 * 7 + j % 7 = j by omega, ← h7, List.getElem?_take, if_pos hj'] at h8
    refine ⟨?_, ?_⟩
    · rw [cell_of_row w g _ cur 91 (0, 0) h3, hf]
      simpa using h8
    · exact frozen_of_row w g _ cur 91 h3
theorem below_sw {w : World} {enc : At × Nat → List Value} {B g off m : Nat} {dk : Array (At × Nat)} {os : Array Obj} (hB : B ≤ g) (hg : g < w.heap.size) : Below B w (sortWorldK enc 7 w g off m dk os) := by
  refine ⟨rfl, rfl, rfl, size_sortWorldK_c _ _ _ _ _ _ _ _, fun k hk => ?_⟩
  unfold sortWorldK
  rw [heap_grow_old _ _ (by rw [size_putRowK]; show k < w.heap.size; omega)]
  unfold putRowK putRow mapBlock
  simp only [Array.getElem?_modify]
  rw [if_neg (by omega)]
  rfl
/-- the sort of a list that the call owns -/
theorem sortAt_any {base : Nat} {l : List At} {g c : Nat} (w : World) (h : Own w base 91 7 At.enc (.slice (some ⟨g, 0, none⟩) l.length c) l) (hl : 0 < l.length) (hn : l.length ≤ 1000000) (hb : base ≤ g) (hg : g < w.heap.size) :
    Calls Try.prog 82 #[.slice (some ⟨g, 0, none⟩) l.length c, .func (.func 83) #[] #[]] w fun e w' => e = .returned (.tuple #[]) ∧ Below base w w' ∧ Slc At.enc 7 w' w'.heap.size (some ⟨g, 0, none⟩) (sortA l) := by
  have hH := holds_of h hl
  have C := sortStable_any lay_at At.enc (fun _ => rfl) (fun x v hv => by
    simp only [At.enc, List.mem_cons, List.not_mem_nil, or_false] at hv
    rcases hv with rfl | rfl | rfl | rfl | rfl | rfl | rfl <;> rfl) cfA swoA 83 #[] g 0 c (tagged l) w (fun _ _ => by kernel_rfl) (cmp_at g 0 _ w) hH hg (by rw [tagged_size]; omega) (fun i hi => by
      rw [tagged_size] at hi
      rw [tagged_at (List.getElem?_eq_getElem hi)])
  rw [tagged_size] at C
  refine C.mono fun e w' ⟨he, q, r, os, hw, hp, ht⟩ => ⟨he, ?_, ?_⟩
  · rw [hw]; exact below_sw hb hg
  · have hs : r.size = l.length := by rw [hp.1, tagged_size]
    have hH2 : HoldsK (encT At.enc) 7 w' g 0 r := by rw [hw]; exact holdsK_sortWorldK_c _ 7 w g 0 (tagged l) r q os hH hg (by rw [hs, tagged_size])
    have he2 := sorted_eq hp ht
    have hlt : g < w'.heap.size := by rw [hw]; exact Nat.lt_of_lt_of_le hg (size_sortWorldK_c _ _ _ _ _ _ _ _)
    intro i x hx
    rw [← he2, List.getElem?_map] at hx
    have hi : i < r.size := by
      cases hq : r.toList[i]? with
      | none => rw [hq] at hx; cases hx
      | some y => have := (List.getElem?_eq_some_iff.1 hq).1; simpa using this
    have hri : r.toList[i]? = some r[i]! := by rw [getElem!_pos r i hi]; simp [hi]
    rw [hri] at hx
    injection hx with hx
    refine ⟨g, 0, rfl, hlt, fun j v hv => ?_⟩
    have hj : j < 7 := by have := (List.getElem?_eq_some_iff.1 hv).1; simpa [At.enc] using this
    have := (hH2.cell (i := i) (c := j) hi hj).1
    rw [this]
    subst hx
    show some ((At.enc r[i]!.1)[j]!) = some v
    rw [List.getElem!_eq_getElem?_getD, hv]
    rfl
/-- nothing to sort -/
theorem ins0_any (A : Option Addr) (c : Nat) (w : World) : Calls Try.prog 93 #[.slice A 0 c, .int .i64 0, .int .i64 0, .func (.func 83) #[] #[]] w fun e w' => e = .returned (.tuple #[]) ∧ w = w' := by
  go_enter Try.func93, Try.ntmps93
  go_wp2
  refine wp_loop_rounds 1 ?_
  rw [rounds_succ]
  go_wp2_with fail
  go_end0
  exact ⟨rfl, rfl⟩
theorem stable0_any (A : Option Addr) (c : Nat) (w : World) : Calls Try.prog 89 #[.slice A 0 c, .int .i64 0, .func (.func 83) #[] #[]] w fun e w' => e = .returned (.tuple #[]) ∧ w = w' := by
  go_enter Try.func89, Try.ntmps89
  go_wp2
  refine wp_loop_rounds 1 ?_
  rw [rounds_succ]
  go_wp2_with fail
  refine (ins0_any A c _).mono ?_
  rintro e w' ⟨rfl, rfl⟩
  go_wp2_with fail
  refine wp_loop_rounds 1 ?_
  rw [rounds_succ]
  go_wp2_with fail
  go_end0
  exact ⟨rfl, rfl⟩
theorem sort0_any (A : Option Addr) (c : Nat) (w : World) : Calls Try.prog 82 #[.slice A 0 c, .func (.func 83) #[] #[]] w fun e w' => e = .returned (.tuple #[]) ∧ w = w' := by
  go_enter Try.func82, Try.ntmps82
  go_wp2_with fail
  refine (stable0_any A c _).mono ?_
  rintro e w' ⟨rfl, rfl⟩
  go_wp2_with fail
  go_end0
  exact ⟨rfl, rfl⟩
/-- what right returns: the error of the judge, or the steps in ascending order of their starts -/
def RightPost (p : Shop) (pl : List (List Int)) (w : World) (e : Ending) (w' : World) : Prop :=
  Below w.heap.size w w' ∧ (((judgeF p pl).2.2 ≠ 0 ∧ e = .returned (.tuple #[.slice none 0 0, .int .i64 (judgeF p pl).2.2])) ∨
    ((judgeF p pl).2.2 = 0 ∧ ∃ A c, e = .returned (.tuple #[.slice A (sortA (ats p pl)).length c, .int .i64 0]) ∧ Slc At.enc 7 w' w'.heap.size A (sortA (ats p pl))))
theorem judge_shaped {p : Shop} {pl : List (List Int)} (h : (judgeF p pl).2.2 = 0) : shapedB p pl = true := by
  unfold judgeF at h
  split at h
  · assumption
  · cases h
set_option maxRecDepth 100000 in
set_option maxHeartbeats 2000000 in
theorem right_any (s : Sh) (A : Option Addr) (c : Nat) (pl : List (List Int)) (w : World) (hS : ShAt w w.heap.size s) (hvB : validShop s.p = true) (hP : Plan w w.heap.size A pl) (hf : PFits pl) :
    Calls Try.prog 67 #[.agg #[.int .i64 s.p.op, .int .i64 s.p.cl, .slice s.aH s.p.hol.length s.cH, .int .i64 s.p.mach, .slice s.aS s.p.setup.length s.cS, .slice s.aJ s.p.jobs.length s.cJ], .slice A pl.length c] w (RightPost s.p pl w) := by
  have hv := valid_facts hvB
  have hfs := hv.fits
  have hen := ents_len hv
  have hal := ats_len s.p pl
  have HV3 : Hid (V3 (judgeF s.p pl) = .tuple #[.int .i64 (judgeF s.p pl).1, .int .i64 (judgeF s.p pl).2.1, .int .i64 (judgeF s.p pl).2.2]) := rfl
  have hk := Blk.new w 25 #[.int .i64 s.p.op, .int .i64 s.p.cl, .slice s.aH s.p.hol.length s.cH, .int .i64 s.p.mach, .slice s.aS s.p.setup.length s.cS, .slice s.aJ s.p.jobs.length s.cJ]
  have hB := (Below.refl w.heap.size w).alloc (Nat.le_refl _) (.cells #[.int .i64 s.p.op, .int .i64 s.p.cl, .slice s.aH s.p.hol.length s.cH, .int .i64 s.p.mach, .slice s.aS s.p.setup.length s.cS, .slice s.aJ s.p.jobs.length s.cJ] 25)
  go_enter Try.func67, Try.ntmps67
  go_wp2_with fail
  generalize w.alloc (.cells #[.int .i64 s.p.op, .int .i64 s.p.cl, .slice s.aH s.p.hol.length s.cH, .int .i64 s.p.mach, .slice s.aS s.p.setup.length s.cS, .slice s.aJ s.p.jobs.length s.cJ] 25) = W at *
  have c0 := hk.cell_ 0 rfl
  have c1 := hk.cell_ 1 rfl
  have c2 := hk.cell_ 2 rfl
  have c3 := hk.cell_ 3 rfl
  have c4 := hk.cell_ 4 rfl
  have c5 := hk.cell_ 5 rfl
  go_wp2_with fail
  refine (valid_any s _ (hS.on hB) hfs.h1 hfs.h2 hfs.h3 hfs.h4).mono ?_
  rintro e W ⟨rfl, hb⟩
  clear c0 c1 c2 c3 c4 c5
  replace hk := hk.below hb hk.lt
  replace hB := hB.trans (hb.mono hB.size)
  clear hb
  have c0 := hk.cell_ 0 rfl
  have c1 := hk.cell_ 1 rfl
  have c2 := hk.cell_ 2 rfl
  have c3 := hk.cell_ 3 rfl
  have c4 := hk.cell_ 4 rfl
  have c5 := hk.cell_ 5 rfl
  rw [hvB]
  go_wp2_with fail
  refine (judge_any s A c pl _ (hS.on hB) hv (hP.on hB) hf).mono ?_
  rintro e W ⟨rfl, hb⟩
  clear c0 c1 c2 c3 c4 c5
  replace hk := hk.below hb hk.lt
  replace hB := hB.trans (hb.mono hB.size)
  clear hb
  have c0 := hk.cell_ 0 rfl
  have c1 := hk.cell_ 1 rfl
  have c2 := hk.cell_ 2 rfl
  have c3 := hk.cell_ 3 rfl
  have c4 := hk.cell_ 4 rfl
  have c5 := hk.cell_ 5 rfl
  rw [HV3.out]
  by_cases hz : (judgeF s.p pl).2.2 = 0
  · have hp := shaped_facts (judge_shaped hz)
    rw [hz]
    have HZ := hide hz
    clear hz
    have hsz := hB.size
    go_wp2_with fail
    refine (list_any s A c pl _ (hS.on hB) hv (hP.on hB) hp).mono ?_
    rintro e W ⟨v, rfl, hb, hO⟩
    clear c0 c1 c2 c3 c4 c5
    replace hk := hk.below hb hk.lt
    replace hB := hB.trans (hb.mono hB.size)
    clear hb
    have c0 := hk.cell_ 0 rfl
    have c1 := hk.cell_ 1 rfl
    have c2 := hk.cell_ 2 rfl
    have c3 := hk.cell_ 3 rfl
    have c4 := hk.cell_ 4 rfl
    have c5 := hk.cell_ 5 rfl
    obtain ⟨base, hbase, hO⟩ : ∃ base, w.heap.size ≤ base ∧ Own W base 91 7 At.enc v (ats s.p pl) := ⟨_, hsz, hO⟩
    clear hsz
    rcases Nat.eq_zero_or_pos (ats s.p pl).length with h0 | h0
    · obtain ⟨AL, cL, rfl, hL⟩ := hO.form fun _ => rfl
      have hnil : ats s.p pl = [] := List.length_eq_zero_iff.1 h0
      have HN := hide hnil
      rw [h0]
      clear h0 hnil hal hO hL
      go_wp2_with fail
      refine (sort0_any AL cL _).mono ?_
      rintro e W' ⟨rfl, rfl⟩
      go_wp2_with fail
      go_ret2
      exact ⟨hB, .inr ⟨HZ.out, AL, cL, by rw [HN.out]; rfl, by rw [HN.out]; exact Slc.nil_⟩⟩
    · obtain ⟨g, cL, rfl, hbg, hgl⟩ := hO.at_ h0
      have HO := hide hO
      have HA := hide h0
      have hsl := sortA_len (ats s.p pl)
      have HSL := hide hsl
      have hal2 : (ats s.p pl).length ≤ 96 := by omega
      clear hO h0 hsl hal
      go_wp2_with fail
      refine (sortAt_any _ HO.out HA.out (by omega) hbg hgl).mono ?_
      rintro e W' ⟨rfl, hb, hL⟩
      have hB2 := hB.trans (hb.mono hbase)
      clear hB hk hb
      go_wp2_with fail
      go_ret2
      exact ⟨hB2, .inr ⟨HZ.out, some ⟨g, 0, none⟩, cL, by rw [HSL.out]; rfl, hL⟩⟩
  · have hzb : ((judgeF s.p pl).2.2 != 0) = true := by simpa using hz
    have HZ := hide hz
    clear hz
    go_wp2_with fail
    go_ret2
    exact ⟨hB, .inl ⟨HZ.out, rfl⟩⟩
end Go.Proofs.Ytcpnfcnobnjhdaa

/- The end of a plan: the plain words. -/
namespace Go.Proofs.Ytcpnfcnobnjhdaa
open Go Go.Sort Go.RowKit StabAt
theorem sortA_perm (l : List At) : (sortA l).Perm l := by
  obtain ⟨s, _, h2, h3⟩ := fold_sorted l 0 [] List.Pairwise.nil (fun b hb => by cases hb)
  have : sortA l = s.map (·.1) := by rw [h3]; rfl
  rw [this]
  have h4 := h2.map (·.1)
  refine h4.trans ?_
  simp
theorem sortA_mem {l : List At} {a : At} : a ∈ sortA l ↔ a ∈ l := (sortA_perm l).mem_iff
/-- the greatest end, 0 at least -/
def endL (l : List At) (m : Int) : Int := l.foldl (fun m a => max m a.end_) m
theorem endL_cons (a : At) (l : List At) (m : Int) : endL (a :: l) m = endL l (max m a.end_) := rfl
theorem endL_drop {l : List At} {k : Nat} {a : At} {m : Int} (h : l[k]? = some a) : endL (l.drop k) m = endL (l.drop (k + 1)) (max m a.end_) := by
  obtain ⟨hl, hf⟩ := List.getElem?_eq_some_iff.1 h
  rw [List.drop_eq_getElem_cons hl, hf]; rfl
theorem endL_is : ∀ (l : List At) (m : Int), m ≤ endL l m ∧ (∀ a ∈ l, a.end_ ≤ endL l m) ∧ (endL l m = m ∨ ∃ a ∈ l, endL l m = a.end_)
  | [], m => ⟨Int.le_refl _, (fun a h => by cases h), .inl rfl⟩
  | b :: l, m => by
    rw [endL_cons]
    obtain ⟨h1, h2, h3⟩ := endL_is l (max m b.end_)
    refine ⟨by omega, fun a ha => ?_, ?_⟩
    · rcases List.mem_cons.1 ha with rfl | ha
      · omega
      · exact h2 a ha
    · rcases h3 with h3 | ⟨a, ha, h3⟩
      · rw [h3]
        by_cases hc : m ≤ b.end_
        · exact .inr ⟨b, by simp, by omega⟩
        · exact .inl (by omega)
      · exact .inr ⟨a, by simp [ha], h3⟩
theorem endL_perm {l l' : List At} (h : l.Perm l') (m : Int) : endL l m = endL l' m := by
  obtain ⟨a1, a2, a3⟩ := endL_is l m
  obtain ⟨b1, b2, b3⟩ := endL_is l' m
  have c1 : endL l m ≤ endL l' m := by
    rcases a3 with a3 | ⟨a, ha, a3⟩
    · omega
    · have := b2 a (h.mem_iff.1 ha); omega
  have c2 : endL l' m ≤ endL l m := by
    rcases b3 with b3 | ⟨a, ha, b3⟩
    · omega
    · have := a2 a (h.mem_iff.2 ha); omega
  omega
/-- what right hands back, as one form -/
noncomputable def rightL (p : Shop) (pl : List (List Int)) : List At := if (judgeF p pl).2.2 = 0 then sortA (ats p pl) else []
theorem RightPost.form {p : Shop} {pl : List (List Int)} {w w' : World} {e : Ending} (h : RightPost p pl w e w') :
    ∃ A c, e = .returned (.tuple #[.slice A (rightL p pl).length c, .int .i64 (judgeF p pl).2.2]) ∧ Below w.heap.size w w' ∧ Slc At.enc 7 w' w'.heap.size A (rightL p pl) := by
  obtain ⟨hb, ⟨h1, h2⟩ | ⟨h1, A, c, h2, h3⟩⟩ := h
  · exact ⟨none, 0, by unfold rightL; rw [if_neg h1, h2]; rfl, hb, by unfold rightL; rw [if_neg h1]; exact Slc.nil_⟩
  · exact ⟨A, c, by unfold rightL; rw [if_pos h1, h2, h1], hb, by unfold rightL; rw [if_pos h1]; exact h3⟩
theorem rightL_ok {p : Shop} (hv : VShop p) {pl : List (List Int)} {a : At} (h : a ∈ rightL p pl) : AtOk p pl a := by
  unfold rightL at h
  split at h
  · rename_i hz
    exact ats_ok hv (shaped_facts (judge_shaped hz)) (sortA_mem.1 h)
  · cases h
theorem rightL_len {p : Shop} (hv : VShop p) (pl : List (List Int)) : (rightL p pl).length ≤ 96 := by
  have h1 := ents_len hv
  have h2 := ats_len p pl
  unfold rightL
  split
  · rw [sortA_len]; omega
  · exact Nat.zero_le _
/-- End: the greatest end of a right plan -/
noncomputable def endV (p : Shop) (pl : List (List Int)) : Int := endL (rightL p pl) 0
set_option maxRecDepth 100000 in
set_option maxHeartbeats 2000000 in
theorem apiEnd_any (s : Sh) (A : Option Addr) (c : Nat) (pl : List (List Int)) (w : World) (hS : ShAt w w.heap.size s) (hvB : validShop s.p = true) (hP : Plan w w.heap.size A pl) (hf : PFits pl) :
    Calls Try.prog 39 #[.agg #[.int .i64 s.p.op, .int .i64 s.p.cl, .slice s.aH s.p.hol.length s.cH, .int .i64 s.p.mach, .slice s.aS s.p.setup.length s.cS, .slice s.aJ s.p.jobs.length s.cJ], .slice A pl.length c] w fun e w' => e = .returned (.tuple #[.int .i64 (endV s.p pl), .int .i64 (judgeF s.p pl).2.2]) ∧ Below w.heap.size w w' := by
  have hv := valid_facts hvB
  have HE : Hid (endV s.p pl = endL ((rightL s.p pl).drop 0) 0) := rfl
  have hln := rightL_len hv pl
  have HOK := hide (fun (a : At) (h : a ∈ rightL s.p pl) => rightL_ok hv h)
  have hk := Blk.new w 25 #[.int .i64 s.p.op, .int .i64 s.p.cl, .slice s.aH s.p.hol.length s.cH, .int .i64 s.p.mach, .slice s.aS s.p.setup.length s.cS, .slice s.aJ s.p.jobs.length s.cJ]
  have hB := (Below.refl w.heap.size w).alloc (Nat.le_refl _) (.cells #[.int .i64 s.p.op, .int .i64 s.p.cl, .slice s.aH s.p.hol.length s.cH, .int .i64 s.p.mach, .slice s.aS s.p.setup.length s.cS, .slice s.aJ s.p.jobs.length s.cJ] 25)
  go_enter Try.func39, Try.ntmps39
  go_wp2_with fail
  generalize w.alloc (.cells #[.int .i64 s.p.op, .int .i64 s.p.cl, .slice s.aH s.p.hol.length s.cH, .int .i64 s.p.mach, .slice s.aS s.p.setup.length s.cS, .slice s.aJ s.p.jobs.length s.cJ] 25) = W at *
  have c0 := hk.cell_ 0 rfl
  have c1 := hk.cell_ 1 rfl
  have c2 := hk.cell_ 2 rfl
  have c3 := hk.cell_ 3 rfl
  have c4 := hk.cell_ 4 rfl
  have c5 := hk.cell_ 5 rfl
  go_wp2_with fail
  refine (right_any s A c pl _ (hS.on hB) hvB (hP.on hB) hf).mono ?_
  rintro e W2 hR
  obtain ⟨AL, cL, rfl, hb, hL⟩ := hR.form
  replace hB := hB.trans (hb.mono hB.size)
  clear hb hR hk c0 c1 c2 c3 c4 c5
  generalize rightL s.p pl = L at *
  obtain ⟨z, hz⟩ : ∃ z, (judgeF s.p pl).2.2 = z := ⟨_, rfl⟩
  rw [hz]
  have HZ := hide hz
  clear hz
  obtain ⟨W, rfl⟩ : ∃ W : World, W = W2 := ⟨_, rfl⟩
  go_wp2_with fail
  go_loopw [8, 19] (fun x y W => ∃ (i : Nat) (m : Int), x = .int .i64 m ∧ y = .int .i64 i ∧ i ≤ L.length ∧ 0 ≤ m ∧ m ≤ 2000000000 ∧ Hid (endV s.p pl = endL (L.drop i) m) ∧ Slc At.enc 7 W W.heap.size AL L ∧ Below w.heap.size w W) (fun x y _ => L.length - (intOf y).toNat)
  case atStart => exact ⟨0, 0, rfl, rfl, Nat.zero_le _, Int.le_refl _, by omega, HE, hL, hB⟩
  case round =>
    clear hL hB
    obtain ⟨W, rfl⟩ : ∃ W : World, W = wr := ⟨_, rfl⟩
    obtain ⟨i, m, rfl, rfl, hi, hm0, hm1, HS, hL, hB⟩ := hrel
    by_cases hlt : i < L.length
    · obtain ⟨a, ha⟩ : ∃ a, L[i]? = some a := ⟨_, List.getElem?_eq_getElem hlt⟩
      obtain ⟨b, off, hA, hb0, d0, d1, d2, d3, d4, d5, d6⟩ := at7 hL ha
      have hok := HOK.out a (List.mem_of_getElem? ha)
      have o1 := hok.t0
      have o2 := hok.t1
      have o3 := (hok.fit hv).mi0
      have o4 := (hok.fit hv).mi1
      have HST := hide (endL_drop (m := m) ha)
      clear ha hok
      subst hA
      have hij : (i : Int) < (L.length : Int) := by omega
      go_wp2_with fail
      have hx := Blk.new W 91 #[.int .i64 a.j, .int .i64 a.k, .int .i64 a.t, .int .i64 a.x.m, .int .i64 a.x.mi, .int .i64 a.x.c, .int .i64 a.x.d]
      replace hL := (hL.below ((Below.refl _ W).alloc (Nat.le_refl _) (.cells #[.int .i64 a.j, .int .i64 a.k, .int .i64 a.t, .int .i64 a.x.m, .int .i64 a.x.mi, .int .i64 a.x.c, .int .i64 a.x.d] 91))).more ((Below.refl _ W).alloc (Nat.le_refl _) (.cells #[.int .i64 a.j, .int .i64 a.k, .int .i64 a.t, .int .i64 a.x.m, .int .i64 a.x.mi, .int .i64 a.x.c, .int .i64 a.x.d] 91)).size
      replace hB := hB.alloc hB.size (.cells #[.int .i64 a.j, .int .i64 a.k, .int .i64 a.t, .int .i64 a.x.m, .int .i64 a.x.mi, .int .i64 a.x.c, .int .i64 a.x.d] 91)
      generalize W.alloc (.cells #[.int .i64 a.j, .int .i64 a.k, .int .i64 a.t, .int .i64 a.x.m, .int .i64 a.x.mi, .int .i64 a.x.c, .int .i64 a.x.d] 91) = W at *
      have a0 := hx.cell_ 0 rfl
      have a1 := hx.cell_ 1 rfl
      have a2 := hx.cell_ 2 rfl
      have a3 := hx.cell_ 3 rfl
      have a4 := hx.cell_ 4 rfl
      have a5 := hx.cell_ 5 rfl
      have a6 := hx.cell_ 6 rfl
      clear d0 d1 d2 d3 d4 d5 d6
      go_wp2_with fail
      refine (end_any a _ ⟨by omega, by omega⟩ ⟨o3, by omega⟩).mono ?_
      rintro e W ⟨rfl, hb⟩
      clear a0 a1 a2 a3 a4 a5 a6
      replace hL := (hL.below hb).more hb.size
      replace hx := hx.below hb hx.lt
      replace hB := hB.trans (hb.mono hB.size)
      clear hb
      have a0 := hx.cell_ 0 rfl
      have a1 := hx.cell_ 1 rfl
      have a2 := hx.cell_ 2 rfl
      have a3 := hx.cell_ 3 rfl
      have a4 := hx.cell_ 4 rfl
      have a5 := hx.cell_ 5 rfl
      have a6 := hx.cell_ 6 rfl
      have HS2 : Hid (endV s.p pl = endL (L.drop (i + 1)) (max m (a.t + a.x.mi))) := by show _ = _; rw [HS.out, HST.out]; rfl
      go_wp2_with fail
      go_roundw
      case rel => exact ⟨i + 1, max m (a.t + a.x.mi), rfl, by go_num, by omega, by omega, by omega, HS2, hL, hB⟩
      case measure => simp [intOf]; omega
    · obtain rfl : i = L.length := by omega
      have HV : Hid (endV s.p pl = m) := by show _ = _; rw [HS.out, nomore]; rfl
      go_wp2_with fail
      go_ret2
      exact ⟨ret_eq (by rw [HV.out, HZ.out]; rfl), hB⟩
end Go.Proofs.Ytcpnfcnobnjhdaa
