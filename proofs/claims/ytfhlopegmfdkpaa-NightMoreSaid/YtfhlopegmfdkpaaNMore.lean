/- NightMore: the walk. -/
import Derived.Test.YtfhlopegmfdkpaaNMoreP
import Derived.Test.YtfhlopegmfdkpaaNLaw2
import Derived.Test.YtfhlopegmfdkpaaOwns
namespace Go.Proofs.Ytfhlopegmfdkpaa
open Go Go.RowKit
theorem et_nits : ElemT Try.prog 23 37 8 := elemT_mk Try.underlying23 (z := .agg #[.int .i64 0, .int .i64 0, .int .i64 0, .int .i64 0, .int .i64 0, .int .i64 0, .bool false, .bool false]) (bytes := 56) (by kernel_rfl) rfl (by omega) (by omega)
theorem et_jobs : ElemT Try.prog 22 39 8 := elemT_mk Try.underlying22 (z := .agg #[.int .i64 0, .int .i64 0, .int .i64 0, .int .i64 0, .int .i64 0, .int .i64 0, .bool false, .bool false]) (bytes := 56) (by kernel_rfl) rfl (by omega) (by omega)
theorem nit_len (x : Nit) : x.enc.length = 8 := rfl
theorem job_len (x : Job) : x.enc.length = 8 := rfl
theorem nit_one (x : Nit) : ∀ u ∈ x.enc, u.oneCell' = true := fun u hu => by
  simp only [Nit.enc, List.mem_cons, List.not_mem_nil, or_false] at hu
  rcases hu with rfl | rfl | rfl | rfl | rfl | rfl | rfl | rfl <;> rfl
theorem job_one (x : Job) : ∀ u ∈ x.enc, u.oneCell' = true := fun u hu => by
  simp only [Job.enc, List.mem_cons, List.not_mem_nil, or_false] at hu
  rcases hu with rfl | rfl | rfl | rfl | rfl | rfl | rfl | rfl <;> rfl
theorem wrong_night {js : List Job} {ns : List Nit} (h : wrongF js ns = 0) (hl : ns.length < 60) (x : Nit) : wrongF js (ns ++ [x]) = if nitOk x then 0 else 81 := by
  obtain ⟨h1, h2, h3, h4⟩ := wrong_facts h
  cases hx : nitOk x
  · exact wrong_nights h1 (by omega) (.inr (List.any_eq_true.2 ⟨x, by simp, by rw [hx]; rfl⟩))
  · refine wrong_ok h1 (by omega) (by simp; omega) (List.any_eq_false.2 fun y hy => ?_)
    rcases List.mem_append.1 hy with hy | hy
    · rw [h4 y hy]; simp
    · rw [List.mem_singleton] at hy; subst hy; rw [hx]; simp
theorem wrong_setN {js : List Job} {ns : List Nit} (h : wrongF js ns = 0) {q : Nat} {x' : Nit} (hx : nitOk x' = true) : wrongF js (ns.set q x') = 0 := by
  obtain ⟨h1, h2, h3, h4⟩ := wrong_facts h
  refine wrong_ok h1 (by omega) (by rw [List.length_set]; omega) (List.any_eq_false.2 fun y hy => ?_)
  rcases List.mem_or_eq_of_mem_set hy with hy | hy
  · rw [h4 y hy]; simp
  · rw [hy, hx]; simp
theorem jobsOk_set {x x' : Job} (hn : x'.n = x.n) (hok : jobOk x' = jobOk x) : ∀ {js : List Job} {seen : List Int} {q : Nat}, js[q]? = some x → jobsOk seen (js.set q x') = jobsOk seen js
  | [], _, _, h => by simp at h
  | y :: r, seen, 0, h => by
    simp at h
    subst h
    rw [List.set_cons_zero]
    simp only [jobsOk, hn, hok]
  | y :: r, seen, q + 1, h => by
    simp at h
    rw [List.set_cons_succ]
    simp only [jobsOk]
    rw [jobsOk_set hn hok h]
theorem wrong_setJ {js : List Job} {ns : List Nit} (h : wrongF js ns = 0) {q : Nat} {x x' : Job} (hx : js[q]? = some x) (hn : x'.n = x.n) (hok : jobOk x' = jobOk x) : wrongF (js.set q x') ns = 0 := by
  obtain ⟨h1, h2, h3, h4⟩ := wrong_facts h
  refine wrong_ok (by rw [jobsOk_set hn hok hx]; exact h1) (by rw [List.length_set]; omega) (by omega) (List.any_eq_false.2 fun y hy => by rw [h4 y hy]; simp)
theorem own_blkF {α : Type} {f : α → List Value} {sz : Nat} {w : World} {base : Nat} {e : TypeId} {A : Option Addr} {c : Nat} {l : List α} {n : Nat} (h : Own w base e sz f (.slice A n c) l) (hl : l ≠ []) : ∃ b js, A = some ⟨b, 0, none⟩ ∧ base ≤ b ∧ Blk w b e (l.flatMap f ++ js).toArray := by
  rcases h.2 with ⟨_, h2⟩ | ⟨b, cap, cur, h1, h2, h3, _, _, _, h7⟩
  · exact absurd (List.length_eq_zero_iff.1 h2) hl
  · injection h1 with h1 _ _
    refine ⟨b, cur.toList.drop (l.length * sz), h1, h2, ?_⟩
    show _ = _
    rw [h3, ← h7, List.take_append_drop]
theorem blkF_get {α : Type} {f : α → List Value} {n : Nat} (hf : ∀ x, (f x).length = n) {l : List α} {js : List Value} {i j : Nat} {x : α} (hx : l[i]? = some x) {v : Value} (hv : (f x)[j]? = some v) : (l.flatMap f ++ js).toArray[i * n + j]? = some v := by
  have h1 := flat_at hf l i x hx j v hv
  rw [List.getElem?_toArray, List.getElem?_append_left (List.getElem?_eq_some_iff.1 h1).1]
  exact h1
theorem flat_set {α : Type} {f : α → List Value} {n : Nat} (hf : ∀ x, (f x).length = n) : ∀ {l : List α} {js : List Value} {q j : Nat} {x x' : α} {v : Value}, l[q]? = some x → j < n → f x' = (f x).set j v → (l.flatMap f ++ js).set (q * n + j) v = (l.set q x').flatMap f ++ js
  | [], _, _, _, _, _, _, h, _, _ => by simp at h
  | y :: r, js, 0, j, x, x', v, h, hj, he => by
    simp at h
    subst h
    rw [List.set_cons_zero, List.flatMap_cons, List.flatMap_cons, List.append_assoc, List.append_assoc, Nat.zero_mul, Nat.zero_add, List.set_append_left _ _ (by rw [hf]; exact hj), he]
  | y :: r, js, q + 1, j, x, x', v, h, hj, he => by
    simp at h
    rw [List.set_cons_succ, List.flatMap_cons, List.flatMap_cons, List.append_assoc, List.append_assoc, List.set_append_right _ _ (by rw [hf, Nat.succ_mul]; omega), hf, show (q + 1) * n + j - n = q * n + j by rw [Nat.succ_mul]; omega, flat_set hf h hj he]
theorem blkF_slc {α : Type} {f : α → List Value} {n : Nat} (hf : ∀ x, (f x).length = n) {w : World} {g : Nat} {e : TypeId} {l : List α} {js : List Value} (h : Blk w g e (l.flatMap f ++ js).toArray) : Slc f n w w.heap.size (some ⟨g, 0, none⟩) l := fun i x hx =>
  ⟨g, 0, rfl, h.lt, fun j v hv => by rw [Nat.zero_add]; exact h.cell_ _ (blkF_get hf hx hv)⟩
theorem apiMost_n (AJ : Option Addr) (cJ : Nat) (js : List Job) (AN : Option Addr) (cN : Nat) (ns : List Nit) (w : World) {a b : Nat} (ha : js.length = a) (hb : ns.length = b) (hJ : Slc Job.enc 8 w w.heap.size AJ js) (hN : Slc Nit.enc 8 w w.heap.size AN ns) (hl1 : js.length ≤ 1000) (hl2 : ns.length ≤ 1000) :
    Calls Try.prog 18 #[.slice AJ a cJ, .slice AN b cN] w (ApiMostPost js ns w) := by
  subst ha hb; exact apiMost_any AJ cJ js AN cN ns w hJ hN hl1 hl2
theorem nit_more {x : Nit} (h : nitOk x = true) {p : Int} (hp : 0 ≤ p ∧ p ≤ 100) : nitOk { x with pl := p } = true := by
  unfold nitOk at h ⊢
  simp only [Bool.and_eq_true, inB_iff] at h ⊢
  exact ⟨h.1, hp⟩
theorem nit_pl {x : Nit} (h : nitOk x = true) : 0 ≤ x.pl ∧ x.pl ≤ 100 := by
  unfold nitOk at h
  simp only [Bool.and_eq_true, inB_iff] at h
  exact h.2
theorem jobsOk_all : ∀ {js : List Job} {seen : List Int}, jobsOk seen js = true → ∀ j ∈ js, jobOk j = true
  | [], _, _, _, h => by cases h
  | y :: r, seen, h, j, hj => by
    simp only [jobsOk, Bool.and_eq_true] at h
    rcases List.mem_cons.1 hj with rfl | hj
    · exact h.1.1
    · exact jobsOk_all h.2 j hj
theorem job_last {x : Job} (h : jobOk x = true) : 0 ≤ x.last ∧ x.last ≤ 100000 := by
  unfold jobOk at h
  simp only [Bool.and_eq_true, inB_iff, decide_eq_true_eq] at h
  omega
theorem job_more {x : Job} (h : jobOk x = true) {p : Int} (h1 : x.last ≤ p) (h2 : p ≤ 100000) : jobOk { x with last := p } = true := by
  unfold jobOk at h ⊢
  simp only [Bool.and_eq_true, inB_iff, decide_eq_true_eq] at h ⊢
  omega
theorem fits_more {x : Job} {y : Nit} (h : fitsF x y = true) {p : Int} (h1 : x.last ≤ p) : fitsF { x with last := p } y = true := by
  unfold fitsF at h ⊢
  simp only [Bool.and_eq_true, inB_iff, decide_eq_true_eq] at h ⊢
  obtain ⟨⟨⟨⟨⟨a1, a2⟩, a3⟩, a4⟩, a5⟩, a6⟩ := h
  exact ⟨⟨⟨⟨⟨a1, a2⟩, ⟨a3.1, by omega⟩⟩, a4⟩, a5⟩, a6⟩
set_option maxRecDepth 100000 in
set_option maxHeartbeats 8000000 in
theorem more_walk (s : Sea) (x : Nit) (y : Job) (at_ : Int) (w : World) (hS : SeaAt w s) (ha : 0 ≤ at_ ∧ at_ ≤ 255) :
    Calls Try.prog 4 #[.agg #[.slice s.aJ s.js.length s.cJ, .slice s.aN s.ns.length s.cN], .agg #[.int .i64 x.day, .int .i64 x.road, .int .i64 x.lo, .int .i64 x.hi, .int .i64 x.crew, .int .i64 x.pl, .bool x.rain, .bool x.frost, .int .i64 y.n, .int .i64 y.road, .int .i64 y.chain, .int .i64 y.first, .int .i64 y.last, .int .i64 y.crew, .bool y.dry, .bool y.warm, .int .u8 at_]] w fun e w' => e = .returned (.bool true) ∧ Below w.heap.size w w' := by
  obtain ⟨js, ns, aJ, cJ, aN, cN⟩ := s
  obtain ⟨hJ, hN, lj, ln⟩ := hS
  dsimp only at *
  unfold maxLen at lj ln
  obtain ⟨CM, hCM⟩ : ∃ CM : Array Value, CM = #[.int .i64 x.day, .int .i64 x.road, .int .i64 x.lo, .int .i64 x.hi, .int .i64 x.crew, .int .i64 x.pl, .bool x.rain, .bool x.frost, .int .i64 y.n, .int .i64 y.road, .int .i64 y.chain, .int .i64 y.first, .int .i64 y.last, .int .i64 y.crew, .bool y.dry, .bool y.warm, .int .u8 at_] := ⟨_, rfl⟩
  have hk := (Blk.new w 25 #[.slice aJ js.length cJ, .slice aN ns.length cN]).alloc (.cells CM 41)
  have hm := Blk.new (w.alloc (.cells #[.slice aJ js.length cJ, .slice aN ns.length cN] 25)) 41 CM
  rw [show (w.alloc (.cells #[.slice aJ js.length cJ, .slice aN ns.length cN] 25)).heap.size = w.heap.size + 1 by simp] at hm
  have hB := ((Below.refl w.heap.size w).alloc (Nat.le_refl _) (.cells #[.slice aJ js.length cJ, .slice aN ns.length cN] 25)).alloc (by simp) (.cells CM 41)
  have HCM := hide hCM
  rw [← hCM]
  clear hCM
  go_enter Try.func4, Try.ntmps4
  go_upto_region 1 with fail
  generalize (w.alloc (.cells #[.slice aJ js.length cJ, .slice aN ns.length cN] 25)).alloc (.cells CM 41) = W at *
  have c0 := hk.cell_ 0 rfl
  have c1 := hk.cell_ 1 rfl
  go_wp2_with fail
  refine (wide_any aJ cJ js aN cN ns 20 20 _).mono ?_
  rintro e W ⟨rfl, hb⟩
  clear c0 c1
  replace hk := hk.below hb hk.lt
  replace hm := hm.below hb hm.lt
  replace hB := hB.trans (hb.mono hB.size)
  clear hb
  have c0 := hk.cell_ 0 rfl
  have c1 := hk.cell_ 1 rfl
  cases hw : wideB js ns 20 20
  case true =>
    go_wp2_with fail
    refine (awake_any _).mono ?_
    rintro e W ⟨rfl, hb⟩
    clear c0 c1
    replace hk := hk.below hb hk.lt
    replace hm := hm.below hb hm.lt
    replace hB := hB.trans (hb.mono hB.size)
    clear hb
    have c0 := hk.cell_ 0 rfl
    have c1 := hk.cell_ 1 rfl
    go_wp2_with fail
    go_ret
    exact ⟨rfl, hB⟩
  obtain ⟨w1, w2⟩ := wideB_false (a := 20) (b := 20) hw
  clear hw
  go_wp2_with fail
  refine (refValid_any aJ cJ js aN cN ns _ (hJ.on hB) (hN.on hB) (by omega) (by omega)).mono ?_
  rintro e W ⟨rfl, hb⟩
  clear c0 c1
  replace hk := hk.below hb hk.lt
  replace hm := hm.below hb hm.lt
  replace hB := hB.trans (hb.mono hB.size)
  clear hb
  have c0 := hk.cell_ 0 rfl
  have c1 := hk.cell_ 1 rfl
  cases hv : validB js ns
  case false =>
    go_wp2_with fail
    refine (awake_any _).mono ?_
    rintro e W ⟨rfl, hb⟩
    clear c0 c1
    replace hk := hk.below hb hk.lt
    replace hm := hm.below hb hm.lt
    replace hB := hB.trans (hb.mono hB.size)
    clear hb
    have c0 := hk.cell_ 0 rfl
    have c1 := hk.cell_ 1 rfl
    go_wp2_with fail
    go_ret
    exact ⟨rfl, hB⟩
  have h0 := valid_zero hv
  have H0 := hide h0
  clear h0 hv
  go_wp2_with fail
  refine (apiMost_any aJ cJ js aN cN ns _ (hJ.on hB) (hN.on hB) (by omega) (by omega)).mono ?_
  rintro e W ⟨n, rfl, hb, hV⟩
  clear c0 c1
  replace hk := hk.below hb hk.lt
  replace hm := hm.below hb hm.lt
  replace hB := hB.trans (hb.mono hB.size)
  clear hb
  have c0 := hk.cell_ 0 rfl
  have c1 := hk.cell_ 1 rfl
  have HV := hide (hV.1 H0.out)
  have hn20 : n ≤ 20 := by
    obtain ⟨N, h1, h2⟩ := HV.out.some_
    have h3 := h1.len
    rw [choose_len] at h3
    rw [← h2]
    exact Nat.le_trans List.countP_le_length (by omega)
  have ew1 : IntKind.i64.wrap ((n : Int) + 1) = (n : Int) + 1 := IntWalk.i64_in _ (by omega)
  rw [H0.out]
  clear hV
  go_wp2_with fail
  have m0 := hm.cell_ 0 (v := (.int .i64 x.day)) (by rw [HCM.out]; rfl)
  have m1 := hm.cell_ 1 (v := (.int .i64 x.road)) (by rw [HCM.out]; rfl)
  have m2 := hm.cell_ 2 (v := (.int .i64 x.lo)) (by rw [HCM.out]; rfl)
  have m3 := hm.cell_ 3 (v := (.int .i64 x.hi)) (by rw [HCM.out]; rfl)
  have m4 := hm.cell_ 4 (v := (.int .i64 x.crew)) (by rw [HCM.out]; rfl)
  have m5 := hm.cell_ 5 (v := (.int .i64 x.pl)) (by rw [HCM.out]; rfl)
  have m6 := hm.cell_ 6 (v := (.bool x.rain)) (by rw [HCM.out]; rfl)
  have m7 := hm.cell_ 7 (v := (.bool x.frost)) (by rw [HCM.out]; rfl)
  have hg : ∀ z9 ∈ ([⟨0, 3, fun u w => Own w W.heap.size 37 8 Nit.enc u []⟩, ⟨3, 3, fun u w => Own w W.heap.size 37 8 Nit.enc u ns⟩, ⟨6, 6, OneOk W.heap.size 37 #[.int .i64 x.day, .int .i64 x.road, .int .i64 x.lo, .int .i64 x.hi, .int .i64 x.crew, .int .i64 x.pl, .bool x.rain, .bool x.frost]⟩] : List Ow), z9.Good := fun z9 hz9 => by
    simp only [List.mem_cons, List.not_mem_nil, or_false] at hz9
    rcases hz9 with rfl | rfl | rfl
    · exact own_ow _ _ _ _ _ _ _
    · exact own_ow _ _ _ _ _ _ _
    · exact one_ow _ _ _ _ _
  have HSL := (hN.on hB)
  refine wp_region_owns 7 [1, 2, 4, 5] [0, 3, 6] [⟨0, 3, fun u w => Own w W.heap.size 37 8 Nit.enc u []⟩, ⟨3, 3, fun u w => Own w W.heap.size 37 8 Nit.enc u ns⟩, ⟨6, 6, OneOk W.heap.size 37 #[.int .i64 x.day, .int .i64 x.road, .int .i64 x.lo, .int .i64 x.hi, .int .i64 x.crew, .int .i64 x.pl, .bool x.rain, .bool x.frost]⟩]
    hg (by kernel_rfl) (by kernel_rfl) (by kernel_rfl) (by kernel_rfl) (by kernel_rfl) ?_
  apply Exists.intro
  refine ⟨fun W1 hb => ?_, ?_⟩
  · have z0 := Since.cell (Since.later hb c0)
    have z1 := Since.cell (Since.later hb c1)
    have y0 := Since.cell (Since.later hb m0)
    have y1 := Since.cell (Since.later hb m1)
    have y2 := Since.cell (Since.later hb m2)
    have y3 := Since.cell (Since.later hb m3)
    have y4 := Since.cell (Since.later hb m4)
    have y5 := Since.cell (Since.later hb m5)
    have y6 := Since.cell (Since.later hb m6)
    have y7 := Since.cell (Since.later hb m7)
    dsimp only [pick, List.filterMap, List.getElem?_cons_succ, List.getElem?_cons_zero]
    repeat (go_big_quiet_step ((fail)))
    exact wpQuiet_nil rfl
  · refine ownWalk_own (⟨0, 3, fun u w => Own w W.heap.size 37 8 Nit.enc u []⟩ : Ow) hg rfl rfl rfl rfl (by simp) (by simp) (fun w1 γ' hb hD hn hp => OwRun.alloc (v := fun g => .slice (some ⟨g, 0, none⟩) 0 0) (o := .cells #[] 37) hb (exec_build rfl (by simp) (run_build0 et_nits w1)) (Own.empty_ (Blk.new w1 _ _) hb.size) (fun g b h => by injection h with h; exact h.symm)) ?_
    intro u0
    simp only [List.setIfInBounds_toArray, List.set_cons_succ, List.set_cons_zero]
    refine ownWalk_own (⟨3, 3, fun u w => Own w W.heap.size 37 8 Nit.enc u ns⟩ : Ow) hg rfl rfl rfl rfl (by simp) (by simp) (fun w1 γ' hb hD hn hp => OwRun.app (xs := []) (ys := ns) _ (⟨0, 3, fun u w => Own w W.heap.size 37 8 Nit.enc u []⟩ : Ow) (by simp) rfl (by simp) (fun u w h => h) (fun u w h => h) et_nits (fun _ => rfl) nit_one rfl rfl rfl (HSL.below hb) rfl (by simp; omega) hb hD ((hp 0 (by simp [preO])).trans rfl) hn) ?_
    intro u3
    simp only [List.setIfInBounds_toArray, List.set_cons_succ, List.set_cons_zero]
    refine ownWalk_own (⟨6, 6, OneOk W.heap.size 37 #[.int .i64 x.day, .int .i64 x.road, .int .i64 x.lo, .int .i64 x.hi, .int .i64 x.crew, .int .i64 x.pl, .bool x.rain, .bool x.frost]⟩ : Ow) hg rfl rfl rfl rfl (by simp) (by simp) (fun w1 γ' hb hD hn hp => OwRun.alloc (v := fun g => .slice (some ⟨g, 0, none⟩) 1 1) (o := .cells #[.int .i64 x.day, .int .i64 x.road, .int .i64 x.lo, .int .i64 x.hi, .int .i64 x.crew, .int .i64 x.pl, .bool x.rain, .bool x.frost] 37) hb (exec_build rfl (by simp [Act.eval] <;> rfl) (run_build1 et_nits (.agg #[.int .i64 x.day, .int .i64 x.road, .int .i64 x.lo, .int .i64 x.hi, .int .i64 x.crew, .int .i64 x.pl, .bool x.rain, .bool x.frost]) rfl (by omega) w1)) ⟨_, rfl, Blk.new w1 _ _, hb.size⟩ (fun g b h => by injection h with h; exact h.symm)) ?_
    intro u6
    simp only [List.setIfInBounds_toArray, List.set_cons_succ, List.set_cons_zero]
    refine ownWalk_nil ?_
    intro W1 hb hD
    have o3 : Own W1 W.heap.size 37 8 Nit.enc u3 ns := hD.ok ⟨3, 3, fun u w => Own w W.heap.size 37 8 Nit.enc u ns⟩ (by simp) u3 rfl (.inl rfl)
    obtain ⟨g6, rfl, b6, _⟩ := hD.ok ⟨6, 6, OneOk W.heap.size 37 #[.int .i64 x.day, .int .i64 x.road, .int .i64 x.lo, .int .i64 x.hi, .int .i64 x.crew, .int .i64 x.pl, .bool x.rain, .bool x.frost]⟩ (by simp) u6 rfl (.inl rfl)
    clear hD hg
    simp only [List.drop_succ_cons, List.drop_zero]
    clear c0 c1 m0 m1 m2 m3 m4 m5 m6 m7
    have kl := hk.lt
    have ml := hm.lt
    go_upto_region 7 with (at_builtin; refine wpList_app_own _ _ rfl rfl et_nits o3 rfl rfl (Blk.slc1 (y := x) b6 rfl) rfl (fun _ => rfl) nit_one (by omega) hb.size ?_; intro v' W2 o7 hb7 hgr7; obtain ⟨L7, hL7⟩ : ∃ l, l = ns ++ [x] := ⟨_, rfl⟩; rw [← hL7] at o7; have HL7 := hide hL7; clear hL7; obtain ⟨A7, c7, rfl, S7⟩ := o7.form (fun _ => rfl))
    replace hk := (hk.below hb kl).below hb7 kl
    replace hm := (hm.below hb ml).below hb7 ml
    have hBz := hB.size
    replace hB := (hB.trans (hb.mono hB.size)).trans (hb7.mono hBz)
    clear o3 b6 o7 hgr7 hb hb7 kl ml hBz
    obtain ⟨W, rfl⟩ : ∃ W : World, W = W2 := ⟨_, rfl⟩
    have c0 := hk.cell_ 0 rfl
    have c1 := hk.cell_ 1 rfl
    have hl7 : L7.length ≤ 21 := by rw [HL7.out]; simp; omega
    have hw7 := wrong_night H0.out (by omega) x
    rw [← HL7.out] at hw7
    go_wp2_with fail
    refine (apiMost_any aJ cJ js A7 c7 L7 _ (hJ.on hB) S7 (by omega) (by omega)).mono ?_
    rintro e W ⟨m, rfl, hb, hV⟩
    clear c0 c1
    replace hk := hk.below hb hk.lt
    replace hm := hm.below hb hm.lt
    replace S7 := Slc.on S7 hb
    replace hB := hB.trans (hb.mono hB.size)
    clear hb
    have c0 := hk.cell_ 0 rfl
    have c1 := hk.cell_ 1 rfl
    have HE : Hid ((wrongF js L7 = 0 ∧ (n : Int) ≤ (m : Int)) ∨ (wrongF js L7 = 81 ∧ nitOk x = false)) := by
      cases hx : nitOk x
      · right
        exact ⟨by rw [hw7, hx]; rfl, rfl⟩
      · left
        have h0 : wrongF js L7 = 0 := by rw [hw7, hx]; rfl
        have h1 := hV.1 h0
        have h2 := more_night HV.out (by rw [← HL7.out]; exact cap_ok (wrong_facts h0).2.2.2) (by rw [← HL7.out]; exact h1)
        exact ⟨h0, by omega⟩
    clear hw7 hV
    generalize wrongF js L7 = E7 at *
    go_upto_region 8 with fail
    go_cut [70] (fun s wx => s = .bool false ∧ Blk wx w.heap.size 25 #[.slice aJ js.length cJ, .slice aN ns.length cN] ∧ Blk wx (w.heap.size + 1) 41 CM ∧ Below w.heap.size w wx)
    case first => as_aux_lemma =>
      rcases HE.out with ⟨rfl, hmn⟩ | ⟨rfl, hx⟩
      · go_wp2_with fail
        go_meet
        exact ⟨by simp; omega, hk, hm, hB⟩
      · have m0 := hm.cell_ 0 (v := (.int .i64 x.day)) (by rw [HCM.out]; rfl)
        have m1 := hm.cell_ 1 (v := (.int .i64 x.road)) (by rw [HCM.out]; rfl)
        have m2 := hm.cell_ 2 (v := (.int .i64 x.lo)) (by rw [HCM.out]; rfl)
        have m3 := hm.cell_ 3 (v := (.int .i64 x.hi)) (by rw [HCM.out]; rfl)
        have m4 := hm.cell_ 4 (v := (.int .i64 x.crew)) (by rw [HCM.out]; rfl)
        have m5 := hm.cell_ 5 (v := (.int .i64 x.pl)) (by rw [HCM.out]; rfl)
        have m6 := hm.cell_ 6 (v := (.bool x.rain)) (by rw [HCM.out]; rfl)
        have m7 := hm.cell_ 7 (v := (.bool x.frost)) (by rw [HCM.out]; rfl)
        go_wp2_with fail
        clear m0 m1 m2 m3 m4 m5 m6 m7
        refine (refNight_any x _).mono ?_
        rintro e W ⟨rfl, hb⟩
        clear c0 c1
        replace hk := hk.below hb hk.lt
        replace hm := hm.below hb hm.lt
        replace S7 := Slc.on S7 hb
        replace hB := hB.trans (hb.mono hB.size)
        clear hb
        have c0 := hk.cell_ 0 rfl
        have c1 := hk.cell_ 1 rfl
        rw [hx]
        go_wp2_with fail
        go_meet
        exact ⟨rfl, hk, hm, hB⟩
    case rest => as_aux_lemma =>
    clear c0 c1
    clear hk hm hB S7 HE HL7 hl7
    obtain ⟨rfl, hk, hm, hB⟩ := hcut
    obtain ⟨W, rfl⟩ : ∃ W : World, W = wc := ⟨_, rfl⟩
    have c0 := hk.cell_ 0 rfl
    have c1 := hk.cell_ 1 rfl
    go_upto_region 10 with fail
    have m0 := hm.cell_ 8 (v := (.int .i64 y.n)) (by rw [HCM.out]; rfl)
    have m1 := hm.cell_ 9 (v := (.int .i64 y.road)) (by rw [HCM.out]; rfl)
    have m2 := hm.cell_ 10 (v := (.int .i64 y.chain)) (by rw [HCM.out]; rfl)
    have m3 := hm.cell_ 11 (v := (.int .i64 y.first)) (by rw [HCM.out]; rfl)
    have m4 := hm.cell_ 12 (v := (.int .i64 y.last)) (by rw [HCM.out]; rfl)
    have m5 := hm.cell_ 13 (v := (.int .i64 y.crew)) (by rw [HCM.out]; rfl)
    have m6 := hm.cell_ 14 (v := (.bool y.dry)) (by rw [HCM.out]; rfl)
    have m7 := hm.cell_ 15 (v := (.bool y.warm)) (by rw [HCM.out]; rfl)
    have hg : ∀ z9 ∈ ([⟨0, 3, fun u w => Own w W.heap.size 39 8 Job.enc u []⟩, ⟨3, 3, fun u w => Own w W.heap.size 39 8 Job.enc u js⟩, ⟨6, 6, OneOk W.heap.size 39 #[.int .i64 y.n, .int .i64 y.road, .int .i64 y.chain, .int .i64 y.first, .int .i64 y.last, .int .i64 y.crew, .bool y.dry, .bool y.warm]⟩] : List Ow), z9.Good := fun z9 hz9 => by
      simp only [List.mem_cons, List.not_mem_nil, or_false] at hz9
      rcases hz9 with rfl | rfl | rfl
      · exact own_ow _ _ _ _ _ _ _
      · exact own_ow _ _ _ _ _ _ _
      · exact one_ow _ _ _ _ _
    have HSL := (hJ.on hB)
    refine wp_region_owns 7 [1, 2, 4, 5] [0, 3, 6] [⟨0, 3, fun u w => Own w W.heap.size 39 8 Job.enc u []⟩, ⟨3, 3, fun u w => Own w W.heap.size 39 8 Job.enc u js⟩, ⟨6, 6, OneOk W.heap.size 39 #[.int .i64 y.n, .int .i64 y.road, .int .i64 y.chain, .int .i64 y.first, .int .i64 y.last, .int .i64 y.crew, .bool y.dry, .bool y.warm]⟩]
      hg (by kernel_rfl) (by kernel_rfl) (by kernel_rfl) (by kernel_rfl) (by kernel_rfl) ?_
    apply Exists.intro
    refine ⟨fun W1 hb => ?_, ?_⟩
    · have z0 := Since.cell (Since.later hb c0)
      have z1 := Since.cell (Since.later hb c1)
      have y0 := Since.cell (Since.later hb m0)
      have y1 := Since.cell (Since.later hb m1)
      have y2 := Since.cell (Since.later hb m2)
      have y3 := Since.cell (Since.later hb m3)
      have y4 := Since.cell (Since.later hb m4)
      have y5 := Since.cell (Since.later hb m5)
      have y6 := Since.cell (Since.later hb m6)
      have y7 := Since.cell (Since.later hb m7)
      dsimp only [pick, List.filterMap, List.getElem?_cons_succ, List.getElem?_cons_zero]
      repeat (go_big_quiet_step ((fail)))
      exact wpQuiet_nil rfl
    · refine ownWalk_own (⟨0, 3, fun u w => Own w W.heap.size 39 8 Job.enc u []⟩ : Ow) hg rfl rfl rfl rfl (by simp) (by simp) (fun w1 γ' hb hD hn hp => OwRun.alloc (v := fun g => .slice (some ⟨g, 0, none⟩) 0 0) (o := .cells #[] 39) hb (exec_build rfl (by simp) (run_build0 et_jobs w1)) (Own.empty_ (Blk.new w1 _ _) hb.size) (fun g b h => by injection h with h; exact h.symm)) ?_
      intro u0
      simp only [List.setIfInBounds_toArray, List.set_cons_succ, List.set_cons_zero]
      refine ownWalk_own (⟨3, 3, fun u w => Own w W.heap.size 39 8 Job.enc u js⟩ : Ow) hg rfl rfl rfl rfl (by simp) (by simp) (fun w1 γ' hb hD hn hp => OwRun.app (xs := []) (ys := js) _ (⟨0, 3, fun u w => Own w W.heap.size 39 8 Job.enc u []⟩ : Ow) (by simp) rfl (by simp) (fun u w h => h) (fun u w h => h) et_jobs (fun _ => rfl) job_one rfl rfl rfl (HSL.below hb) rfl (by simp; omega) hb hD ((hp 0 (by simp [preO])).trans rfl) hn) ?_
      intro u3
      simp only [List.setIfInBounds_toArray, List.set_cons_succ, List.set_cons_zero]
      refine ownWalk_own (⟨6, 6, OneOk W.heap.size 39 #[.int .i64 y.n, .int .i64 y.road, .int .i64 y.chain, .int .i64 y.first, .int .i64 y.last, .int .i64 y.crew, .bool y.dry, .bool y.warm]⟩ : Ow) hg rfl rfl rfl rfl (by simp) (by simp) (fun w1 γ' hb hD hn hp => OwRun.alloc (v := fun g => .slice (some ⟨g, 0, none⟩) 1 1) (o := .cells #[.int .i64 y.n, .int .i64 y.road, .int .i64 y.chain, .int .i64 y.first, .int .i64 y.last, .int .i64 y.crew, .bool y.dry, .bool y.warm] 39) hb (exec_build rfl (by simp [Act.eval] <;> rfl) (run_build1 et_jobs (.agg #[.int .i64 y.n, .int .i64 y.road, .int .i64 y.chain, .int .i64 y.first, .int .i64 y.last, .int .i64 y.crew, .bool y.dry, .bool y.warm]) rfl (by omega) w1)) ⟨_, rfl, Blk.new w1 _ _, hb.size⟩ (fun g b h => by injection h with h; exact h.symm)) ?_
      intro u6
      simp only [List.setIfInBounds_toArray, List.set_cons_succ, List.set_cons_zero]
      refine ownWalk_nil ?_
      intro W1 hb hD
      have o3 : Own W1 W.heap.size 39 8 Job.enc u3 js := hD.ok ⟨3, 3, fun u w => Own w W.heap.size 39 8 Job.enc u js⟩ (by simp) u3 rfl (.inl rfl)
      obtain ⟨g6, rfl, b6, _⟩ := hD.ok ⟨6, 6, OneOk W.heap.size 39 #[.int .i64 y.n, .int .i64 y.road, .int .i64 y.chain, .int .i64 y.first, .int .i64 y.last, .int .i64 y.crew, .bool y.dry, .bool y.warm]⟩ (by simp) u6 rfl (.inl rfl)
      clear hD hg
      simp only [List.drop_succ_cons, List.drop_zero]
      clear c0 c1 m0 m1 m2 m3 m4 m5 m6 m7
      have kl := hk.lt
      have ml := hm.lt
      go_upto_region 11 with (at_builtin; refine wpList_app_own _ _ rfl rfl et_jobs o3 rfl rfl (Blk.slc1 (y := y) b6 rfl) rfl (fun _ => rfl) job_one (by omega) hb.size ?_; intro v' W2 o7 hb7 hgr7; obtain ⟨L7, hL7⟩ : ∃ l, l = js ++ [y] := ⟨_, rfl⟩; rw [← hL7] at o7; have HL7 := hide hL7; clear hL7; obtain ⟨A7, c7, rfl, S7⟩ := o7.form (fun _ => rfl))
      replace hk := (hk.below hb kl).below hb7 kl
      replace hm := (hm.below hb ml).below hb7 ml
      have hBz := hB.size
      replace hB := (hB.trans (hb.mono hB.size)).trans (hb7.mono hBz)
      clear o3 b6 o7 hgr7 hb hb7 kl ml hBz
      obtain ⟨W, rfl⟩ : ∃ W : World, W = W2 := ⟨_, rfl⟩
      have c0 := hk.cell_ 0 rfl
      have c1 := hk.cell_ 1 rfl
      have hl7 : L7.length ≤ 21 := by rw [HL7.out]; simp; omega
      go_wp2_with fail
      refine (apiMost_any A7 c7 L7 aN cN ns _ S7 (hN.on hB) (by omega) (by omega)).mono ?_
      rintro e W ⟨mj, rfl, hb, hV⟩
      clear c0 c1
      replace hk := hk.below hb hk.lt
      replace hm := hm.below hb hm.lt
      replace S7 := Slc.on S7 hb
      replace hB := hB.trans (hb.mono hB.size)
      clear hb
      have c0 := hk.cell_ 0 rfl
      have c1 := hk.cell_ 1 rfl
      have HE : Hid ((wrongF L7 ns = 0 ∧ (n : Int) ≤ (mj : Int) ∧ (mj : Int) ≤ (n : Int) + 1) ∨ (wrongF L7 ns == 0) = false) := by
        by_cases h0 : wrongF L7 ns = 0
        · left
          have h2 := more_job HV.out (by rw [← HL7.out]; exact hV.1 h0)
          exact ⟨h0, by omega, by omega⟩
        · right
          simpa using h0
      have HVB : Hid (validB L7 ns = (wrongF L7 ns == 0)) := by
        show _ = _
        unfold validB
        by_cases h0 : wrongF L7 ns = 0 <;> simp [h0]
      have VR := hide (fun w h1 h2 => refValid_any A7 c7 L7 aN cN ns w h1 h2 (by omega) (by omega))
      clear hV
      generalize wrongF L7 ns = E7 at *
      generalize validB L7 ns = B7 at *
      have HSJ := S7
      have HSN := hN.on hB
      go_upto_region 12 with fail
      go_cut [107] (fun s wx => s = .bool false ∧ Blk wx w.heap.size 25 #[.slice aJ js.length cJ, .slice aN ns.length cN] ∧ Blk wx (w.heap.size + 1) 41 CM ∧ Below w.heap.size w wx)
      case first => as_aux_lemma =>
        rcases HE.out with ⟨rfl, hm1, hm2⟩ | hE
        · have hvb : B7 = true := by rw [HVB.out]; rfl
          subst hvb
          go_wp2_with fail
          refine (VR.out _ S7 HSN).mono ?_
          rintro e W ⟨rfl, hb⟩
          have hkl := hk.lt
          have hml := hm.lt
          replace hk := hk.below hb hkl
          replace hm := hm.below hb hml
          replace hB := hB.trans (hb.mono hB.size)
          go_wp2_with fail
          go_meet
          exact ⟨by simp; omega, hk, hm, hB⟩
        · have hvb : B7 = false := by rw [HVB.out]; exact hE
          subst hvb
          go_wp2_with fail
          refine (VR.out _ S7 HSN).mono ?_
          rintro e W ⟨rfl, hb⟩
          have hkl := hk.lt
          have hml := hm.lt
          replace hk := hk.below hb hkl
          replace hm := hm.below hb hml
          replace hB := hB.trans (hb.mono hB.size)
          go_wp2_with fail
          go_meet
          exact ⟨rfl, hk, hm, hB⟩
      case rest => as_aux_lemma =>
      clear c0 c1
      clear hk hm hB S7 HE HL7 hl7 HVB VR HSJ HSN
      obtain ⟨rfl, hk, hm, hB⟩ := hcut
      obtain ⟨W, rfl⟩ : ∃ W : World, W = wc := ⟨_, rfl⟩
      have c0 := hk.cell_ 0 rfl
      have c1 := hk.cell_ 1 rfl
      go_upto_if 111 with fail
      go_cut [7, 13, 14, 15] (fun s7 s13 s14 s15 wx => Blk wx w.heap.size 25 #[.slice aJ js.length cJ, .slice aN ns.length cN] ∧ Blk wx (w.heap.size + 1) 41 CM ∧ Below w.heap.size w wx)
      case first => as_aux_lemma =>
        by_cases hn0 : ns.length = 0
        · have hn0' : ¬ (0 : Int) < (ns.length : Int) := by omega
          clear hn0
          go_wp2_with fail
          go_meet
          exact ⟨hk, hm, hB⟩
        · have hn0' : (0 : Int) < (ns.length : Int) := by omega
          have hne : ns ≠ [] := by rintro rfl; simp at hn0
          have hal := (Below.refl W.heap.size W).alloc (Nat.le_refl _) (.cells #[] 37)
          have HSN := hN.on hB
          have hkl := hk.lt
          have hml := hm.lt
          go_upto_region 16 with (at_builtin; refine wpList_app_own _ _ rfl rfl et_nits (Own.empty_ (f := Nit.enc) (sz := 8) (Blk.new W 37 #[]) (Nat.le_refl W.heap.size)) rfl rfl (HSN.below hal) rfl (fun _ => rfl) nit_one (by simp; omega) hal.size ?_; intro v' W2 o7 hb7 hgr7; rw [List.nil_append] at o7; obtain ⟨A7, c7, rfl, S7⟩ := o7.form (fun _ => rfl))
          clear c0 c1
          have hb9 := (hal.trans hb7)
          replace hk := hk.below hb9 hkl
          replace hm := hm.below hb9 hml
          replace hB := hB.trans (hb9.mono hB.size)
          have hWs := Nat.le_trans hal.size hb7.size
          obtain ⟨g, js7, rfl, hge, G7⟩ := own_blkF o7 hne
          obtain ⟨B0, hB0⟩ : ∃ B0, B0 = W.heap.size := ⟨_, rfl⟩
          rw [← hB0] at hge hkl hml hWs
          clear HSN hal hb7 hgr7 hb9 o7 hB0
          obtain ⟨W, rfl⟩ : ∃ W : World, W = W2 := ⟨_, rfl⟩
          have hq0 := Int.emod_nonneg at_ (show (ns.length : Int) ≠ 0 by omega)
          have hq1 := Int.emod_lt_of_pos at_ hn0'
          obtain ⟨q, hq⟩ : ∃ q : Nat, at_ % (ns.length : Int) = q := ⟨(at_ % (ns.length : Int)).toNat, by omega⟩
          have hqn : q < ns.length := by omega
          have htm : at_.tmod (ns.length : Int) = q := by rw [Int.tmod_eq_emod_of_nonneg ha.1]; exact hq
          have hwm : IntKind.i64.wrap at_ = at_ := IntWalk.i64_in _ (by omega)
          have hqi : (q : Int) < (ns.length : Int) := by omega
          clear hq0 hq1
          have c0 := hk.cell_ 0 rfl
          have c1 := hk.cell_ 1 rfl
          have m16 := hm.cell_ 16 (v := .int .u8 at_) (by rw [HCM.out]; rfl)
          go_upto_region 17 with fail
          clear c0 c1
          clear hq htm hwm m16
          obtain ⟨x9, hx9⟩ : ∃ x9, ns[q]? = some x9 := ⟨_, List.getElem?_eq_getElem hqn⟩
          have hnok := (wrong_facts H0.out).2.2.2 x9 (List.mem_of_getElem? hx9)
          have hpl := nit_pl hnok
          have ew2 : IntKind.i64.wrap (x9.pl + 1) = x9.pl + 1 := IntWalk.i64_in _ (by omega)
          have gp := G7.cell_ (q * 8 + 5) (blkF_get nit_len hx9 (j := 5) (v := .int .i64 x9.pl) rfl)
          have HX9 := hide (And.intro hx9 hnok)
          have HSZ : Hid (q * 8 + 5 < (ns.flatMap Nit.enc ++ js7).toArray.size) := by
            show _ < _
            rw [List.size_toArray, List.length_append, flat_len nit_len]
            omega
          clear hx9 hnok
          go_cut [] (fun wx => ∃ p9 : Int, (x9.pl ≤ p9 ∧ p9 ≤ x9.pl + 1 ∧ p9 ≤ 100) ∧ Blk wx g 37 ((ns.flatMap Nit.enc ++ js7).toArray.setIfInBounds (q * 8 + 5) (.int .i64 p9)) ∧ Blk wx w.heap.size 25 #[.slice aJ js.length cJ, .slice aN ns.length cN] ∧ Blk wx (w.heap.size + 1) 41 CM ∧ Below w.heap.size w wx)
          case first => as_aux_lemma =>
            by_cases hp9 : x9.pl + 1 < 100
            · go_wp2_with (refine wpList_store_at rfl 3 _ _ rfl (.int .i64 (x9.pl + 1)) G7 rfl rfl (by kernel_rfl) rfl HSZ.out rfl ?_; intro W3 G8 hc8)
              go_meet
              exact ⟨_, ⟨by omega, by omega, by omega⟩, G8, hk.chg1 hc8 (by omega), hm.chg1 hc8 (by omega), hB.trans (hc8.below1 hB.size (by omega))⟩
            · go_wp2_with (refine wpList_store_at rfl 3 _ _ rfl (.int .i64 100) G7 rfl rfl (by kernel_rfl) rfl HSZ.out rfl ?_; intro W3 G8 hc8)
              go_meet
              exact ⟨_, ⟨by omega, by omega, by omega⟩, G8, hk.chg1 hc8 (by omega), hm.chg1 hc8 (by omega), hB.trans (hc8.below1 hB.size (by omega))⟩
          case rest => as_aux_lemma =>
          clear hk hm hB G7 S7 gp ew2
          obtain ⟨p9, hp9', G8, hk, hm, hB⟩ := hcut
          obtain ⟨W, rfl⟩ : ∃ W : World, W = wc := ⟨_, rfl⟩
          rw [List.setIfInBounds_toArray, flat_set nit_len HX9.out.1 (x' := { x9 with pl := p9 }) (by omega) rfl] at G8
          have hok9 : nitOk { x9 with pl := p9 } = true := nit_more HX9.out.2 (by omega)
          have hw9 := wrong_setN H0.out (q := q) hok9
          have HPL := hide (fun m => more_place (m := m) (js := js) HX9.out.1 (x' := { x9 with pl := p9 }) (fun _ => rfl) ⟨hp9'.1, hp9'.2.1⟩ hpl.1 HV.out (cap_ok (wrong_facts hw9).2.2.2))
          obtain ⟨NS, hNS⟩ : ∃ NS, NS = ns.set q { x9 with pl := p9 } := ⟨_, rfl⟩
          rw [← hNS] at G8 hw9 HPL
          have hNl : NS.length = ns.length := by rw [hNS, List.length_set]
          have S8 := blkF_slc nit_len G8
          have HNl := hide hNl
          clear G8 hp9' hpl HSZ HX9 hNS hNl
          have c0 := hk.cell_ 0 rfl
          have c1 := hk.cell_ 1 rfl
          go_wp2_with fail
          refine (apiMost_n aJ cJ js (some ⟨g, 0, none⟩) c7 NS _ rfl HNl.out (hJ.on hB) S8 (by omega) (by rw [HNl.out]; omega)).mono ?_
          rintro e W ⟨mN, rfl, hb, hV⟩
          clear c0 c1
          replace hk := hk.below hb hk.lt
          replace hm := hm.below hb hm.lt
          replace S8 := Slc.on S8 hb
          replace hB := hB.trans (hb.mono hB.size)
          clear hb
          have c0 := hk.cell_ 0 rfl
          have c1 := hk.cell_ 1 rfl
          have hmm := HPL.out mN (hV.1 hw9)
          have hmm1 : (n : Int) ≤ (mN : Int) := by omega
          have hmm2 : (mN : Int) ≤ (n : Int) + 1 := by omega
          rw [hw9]
          clear hw9 HPL hV hmm
          go_upto_region 19 with fail
          go_cut [152] (fun s wx => s = .bool false ∧ Blk wx w.heap.size 25 #[.slice aJ js.length cJ, .slice aN ns.length cN] ∧ Blk wx (w.heap.size + 1) 41 CM ∧ Below w.heap.size w wx)
          case first => as_aux_lemma =>
            go_wp2_with fail
            go_meet
            exact ⟨by simp; omega, hk, hm, hB⟩
          case rest => as_aux_lemma =>
          clear c0 c1
          clear hk hm hB S8
          obtain ⟨rfl, hk, hm, hB⟩ := hcut
          go_wp2_with fail
          go_meet
          exact ⟨hk, hm, hB⟩
      case rest => as_aux_lemma =>
      clear c0 c1
      clear hk hm hB
      obtain ⟨hk, hm, hB⟩ := hcut
      obtain ⟨W, rfl⟩ : ∃ W : World, W = wc := ⟨_, rfl⟩
      have c0 := hk.cell_ 0 rfl
      have c1 := hk.cell_ 1 rfl
      go_upto_if 156 with fail
      go_cut [10, 16, 17, 18] (fun s7 s13 s14 s15 wx => Blk wx w.heap.size 25 #[.slice aJ js.length cJ, .slice aN ns.length cN] ∧ Blk wx (w.heap.size + 1) 41 CM ∧ Below w.heap.size w wx)
      case first => as_aux_lemma =>
        by_cases hn0 : js.length = 0
        · have hn0' : ¬ (0 : Int) < (js.length : Int) := by omega
          clear hn0
          go_wp2_with fail
          go_meet
          exact ⟨hk, hm, hB⟩
        · have hn0' : (0 : Int) < (js.length : Int) := by omega
          have hne : js ≠ [] := by rintro rfl; simp at hn0
          have hal := (Below.refl W.heap.size W).alloc (Nat.le_refl _) (.cells #[] 39)
          have HSN := hJ.on hB
          have hkl := hk.lt
          have hml := hm.lt
          go_upto_region 23 with (at_builtin; refine wpList_app_own _ _ rfl rfl et_jobs (Own.empty_ (f := Job.enc) (sz := 8) (Blk.new W 39 #[]) (Nat.le_refl W.heap.size)) rfl rfl (HSN.below hal) rfl (fun _ => rfl) job_one (by simp; omega) hal.size ?_; intro v' W2 o7 hb7 hgr7; rw [List.nil_append] at o7; obtain ⟨A7, c7, rfl, S7⟩ := o7.form (fun _ => rfl))
          clear c0 c1
          have hb9 := (hal.trans hb7)
          replace hk := hk.below hb9 hkl
          replace hm := hm.below hb9 hml
          replace hB := hB.trans (hb9.mono hB.size)
          have hWs := Nat.le_trans hal.size hb7.size
          obtain ⟨g, js7, rfl, hge, G7⟩ := own_blkF o7 hne
          obtain ⟨B0, hB0⟩ : ∃ B0, B0 = W.heap.size := ⟨_, rfl⟩
          rw [← hB0] at hge hkl hml hWs
          clear HSN hal hb7 hgr7 hb9 o7 hB0
          obtain ⟨W, rfl⟩ : ∃ W : World, W = W2 := ⟨_, rfl⟩
          have hq0 := Int.emod_nonneg at_ (show (js.length : Int) ≠ 0 by omega)
          have hq1 := Int.emod_lt_of_pos at_ hn0'
          obtain ⟨q, hq⟩ : ∃ q : Nat, at_ % (js.length : Int) = q := ⟨(at_ % (js.length : Int)).toNat, by omega⟩
          have hqn : q < js.length := by omega
          have htm : at_.tmod (js.length : Int) = q := by rw [Int.tmod_eq_emod_of_nonneg ha.1]; exact hq
          have hwm : IntKind.i64.wrap at_ = at_ := IntWalk.i64_in _ (by omega)
          have hqi : (q : Int) < (js.length : Int) := by omega
          clear hq0 hq1
          have c0 := hk.cell_ 0 rfl
          have c1 := hk.cell_ 1 rfl
          have m16 := hm.cell_ 16 (v := .int .u8 at_) (by rw [HCM.out]; rfl)
          go_upto_region 24 with fail
          clear c0 c1
          clear hq htm hwm m16
          obtain ⟨x9, hx9⟩ : ∃ x9, js[q]? = some x9 := ⟨_, List.getElem?_eq_getElem hqn⟩
          have hnok := jobsOk_all (wrong_facts H0.out).1 x9 (List.mem_of_getElem? hx9)
          have hpl := job_last hnok
          have ew2 : IntKind.i64.wrap (x9.last + 1) = x9.last + 1 := IntWalk.i64_in _ (by omega)
          have gp := G7.cell_ (q * 8 + 4) (blkF_get job_len hx9 (j := 4) (v := .int .i64 x9.last) rfl)
          have HX9 := hide (And.intro hx9 hnok)
          have HSZ : Hid (q * 8 + 4 < (js.flatMap Job.enc ++ js7).toArray.size) := by
            show _ < _
            rw [List.size_toArray, List.length_append, flat_len job_len]
            omega
          clear hx9 hnok
          go_cut [] (fun wx => ∃ p9 : Int, (x9.last ≤ p9 ∧ p9 ≤ x9.last + 1 ∧ p9 ≤ 100000) ∧ Blk wx g 39 ((js.flatMap Job.enc ++ js7).toArray.setIfInBounds (q * 8 + 4) (.int .i64 p9)) ∧ Blk wx w.heap.size 25 #[.slice aJ js.length cJ, .slice aN ns.length cN] ∧ Blk wx (w.heap.size + 1) 41 CM ∧ Below w.heap.size w wx)
          case first => as_aux_lemma =>
            by_cases hp9 : x9.last + 1 < 100000
            · go_wp2_with (refine wpList_store_at rfl 3 _ _ rfl (.int .i64 (x9.last + 1)) G7 rfl rfl (by kernel_rfl) rfl HSZ.out rfl ?_; intro W3 G8 hc8)
              go_meet
              exact ⟨_, ⟨by omega, by omega, by omega⟩, G8, hk.chg1 hc8 (by omega), hm.chg1 hc8 (by omega), hB.trans (hc8.below1 hB.size (by omega))⟩
            · go_wp2_with (refine wpList_store_at rfl 3 _ _ rfl (.int .i64 100000) G7 rfl rfl (by kernel_rfl) rfl HSZ.out rfl ?_; intro W3 G8 hc8)
              go_meet
              exact ⟨_, ⟨by omega, by omega, by omega⟩, G8, hk.chg1 hc8 (by omega), hm.chg1 hc8 (by omega), hB.trans (hc8.below1 hB.size (by omega))⟩
          case rest => as_aux_lemma =>
          clear hk hm hB G7 S7 gp ew2
          obtain ⟨p9, hp9', G8, hk, hm, hB⟩ := hcut
          obtain ⟨W, rfl⟩ : ∃ W : World, W = wc := ⟨_, rfl⟩
          rw [List.setIfInBounds_toArray, flat_set job_len HX9.out.1 (x' := { x9 with last := p9 }) (by omega) rfl] at G8
          have hok9 : jobOk { x9 with last := p9 } = jobOk x9 := by rw [HX9.out.2]; exact job_more HX9.out.2 hp9'.1 hp9'.2.2
          have hw9 := wrong_setJ H0.out HX9.out.1 (x' := { x9 with last := p9 }) rfl hok9
          have HPL := hide (fun m => more_day (m := m) (ns := ns) HX9.out.1 (x' := { x9 with last := p9 }) (fun y h => fits_more h hp9'.1) (cap_ok (wrong_facts H0.out).2.2.2) HV.out)
          obtain ⟨NS, hNS⟩ : ∃ NS, NS = js.set q { x9 with last := p9 } := ⟨_, rfl⟩
          rw [← hNS] at G8 hw9 HPL
          have hNl : NS.length = js.length := by rw [hNS, List.length_set]
          have S8 := blkF_slc job_len G8
          have HNl := hide hNl
          clear G8 hp9' hpl HSZ HX9 hNS hNl
          have c0 := hk.cell_ 0 rfl
          have c1 := hk.cell_ 1 rfl
          go_wp2_with fail
          refine (apiMost_n (some ⟨g, 0, none⟩) c7 NS aN cN ns _ HNl.out rfl S8 (hN.on hB) (by rw [HNl.out]; omega) (by omega)).mono ?_
          rintro e W ⟨mN, rfl, hb, hV⟩
          clear c0 c1
          replace hk := hk.below hb hk.lt
          replace hm := hm.below hb hm.lt
          replace S8 := Slc.on S8 hb
          replace hB := hB.trans (hb.mono hB.size)
          clear hb
          have c0 := hk.cell_ 0 rfl
          have c1 := hk.cell_ 1 rfl
          have hmm := HPL.out mN (hV.1 hw9)
          have hmm1 : (n : Int) ≤ (mN : Int) := by omega
          have hmm2 : (mN : Int) ≤ (n : Int) + 1 := by omega
          rw [hw9]
          clear hw9 HPL hV hmm
          go_upto_region 26 with fail
          go_cut [197] (fun s wx => s = .bool false ∧ Blk wx w.heap.size 25 #[.slice aJ js.length cJ, .slice aN ns.length cN] ∧ Blk wx (w.heap.size + 1) 41 CM ∧ Below w.heap.size w wx)
          case first => as_aux_lemma =>
            go_wp2_with fail
            go_meet
            exact ⟨by simp; omega, hk, hm, hB⟩
          case rest => as_aux_lemma =>
          clear c0 c1
          clear hk hm hB S8
          obtain ⟨rfl, hk, hm, hB⟩ := hcut
          go_wp2_with fail
          go_meet
          exact ⟨hk, hm, hB⟩
      case rest => as_aux_lemma =>
      clear c0 c1
      clear hk hm hB
      obtain ⟨hk, hm, hB⟩ := hcut
      obtain ⟨W, rfl⟩ : ∃ W : World, W = wc := ⟨_, rfl⟩
      have c0 := hk.cell_ 0 rfl
      have c1 := hk.cell_ 1 rfl
      go_wp2_with fail
      refine (awake_any _).mono ?_
      rintro e W ⟨rfl, hb⟩
      clear c0 c1
      replace hk := hk.below hb hk.lt
      replace hm := hm.below hb hm.lt
      replace hB := hB.trans (hb.mono hB.size)
      clear hb
      have c0 := hk.cell_ 0 rfl
      have c1 := hk.cell_ 1 rfl
      go_wp2_with fail
      go_ret
      exact ⟨rfl, hB⟩
end Go.Proofs.Ytfhlopegmfdkpaa
