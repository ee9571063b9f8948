/- Parts of the proofs of this seat: Alone. Each part says what it proves; no condition beyond those stated there. -/
import Derived.Deep.RegionWith
import Derived.Deep.DeepCutAuto
import Derived.Test.YtcpnfcnobnjhdaaB43
import Derived.Test.YtcpnfcnobnjhdaaB44

/- Alone of package shop: the walk. -/
namespace Go.Proofs.Ytcpnfcnobnjhdaa
open Go Go.RowKit
def AlonePost (p : Shop) (st : List Step) (w : World) (e : Ending) (w' : World) : Prop := ∃ s1 : Sh, s1.p = oneS p st ∧ e = .returned (.tuple #[.agg #[.int .i64 s1.p.op, .int .i64 s1.p.cl, .slice s1.aH s1.p.hol.length s1.cH, .int .i64 s1.p.mach, .slice s1.aS s1.p.setup.length s1.cS, .slice s1.aJ s1.p.jobs.length s1.cJ], .int .i64 0]) ∧ Below w.heap.size w w' ∧ ShAt w' w'.heap.size s1
theorem Slc.chgA_ {α : Type} {enc : α → List Value} {sz : Nat} {w w' : World} {B : Nat} {A : Option Addr} {xs : List α} {g : Nat} (h : Slc enc sz w B A xs) (hc : Chg (fun k => k = g) w w') (hA : ∀ b off, A = some ⟨b, off, none⟩ → b ≠ g) : Slc enc sz w' B A xs := fun i x hx => by
  obtain ⟨b, off, h1, h2, h3⟩ := h i x hx
  exact ⟨b, off, h1, h2, fun j v hv => hc.cell1 (h3 j v hv) (hA b off h1)⟩
theorem clone_chg {α : Type} {f : α → List Value} {sz B base g n c : Nat} {e : TypeId} {A : Option Addr} {l : List α} {w0 w w' : World} (h : Slc f sz w B A l) (ho : l ≠ [] → Own w0 base e sz f (.slice A n c) l) (hc : Chg (fun k => k = g) w w') (hg : g < base) : Slc f sz w' B A l := by
  by_cases hl : l = []
  · subst hl; exact Slc.nil_
  · exact h.chgA_ hc fun b off hA => by have := (ho hl).ge b off hA; omega
def zeroS : Array Value := #[.int .i64 0, .int .i64 0, .slice none 0 0, .int .i64 0, .slice none 0 0, .slice none 0 0]
theorem slc_work {w : World} {g : Nat} {t : TypeId} {A' : Option Addr} {c' : Nat} {st : List Step} (hb : Blk w g t #[.slice A' st.length c']) (hS : Slc Step.enc 4 w w.heap.size A' st) : Jobs w w.heap.size (some ⟨g, 0, none⟩) [st] := fun i l hl => by
  cases i with
  | zero =>
    simp at hl; subst hl
    exact ⟨g, 0, A', c', rfl, hb.lt, by simpa using hb.cell_ 0 rfl, hS⟩
  | succ i => simp at hl
set_option maxRecDepth 100000 in
set_option maxHeartbeats 4000000 in
theorem alone_ok (s : Sh) (j : Nat) (st : List Step) (w : World) (hS : ShAt w w.heap.size s) (hvB : validShop s.p = true) (hj : s.p.jobs[j]? = some st) :
    Calls Try.prog 46 #[.agg #[.int .i64 s.p.op, .int .i64 s.p.cl, .slice s.aH s.p.hol.length s.cH, .int .i64 s.p.mach, .slice s.aS s.p.setup.length s.cS, .slice s.aJ s.p.jobs.length s.cJ], .int .i64 j] w (AlonePost s.p st w) := by
  have hv := valid_facts hvB
  have hfs := hv.fits
  have hjn := hv.jobn
  have hjl := (List.getElem?_eq_some_iff.1 hj).1
  have hin : inB 0 (j : Int) (s.p.jobs.length - 1) = true := inB_iff.2 ⟨by omega, by omega⟩
  have hs8 := (hv.steps j st hj).1
  have hh := hv.holn
  have hset := hv.setn
  have hm6 := hv.mach6
  have hset2 : s.p.setup.length ≤ 6 := by omega
  obtain ⟨b, off, _, _, hAJ, _, _, _⟩ := job_at hS.jobs hj
  have HJ := hide hj
  clear hj hset
  obtain ⟨p, aH, cH, aS, cS, aJ, cJ⟩ := s
  dsimp only at *
  subst hAJ
  have hk := (Blk.new w 25 #[.int .i64 p.op, .int .i64 p.cl, .slice aH p.hol.length cH, .int .i64 p.mach, .slice aS p.setup.length cS, .slice (some ⟨b, off, none⟩) p.jobs.length cJ]).alloc (.cells #[.int .i64 0, .int .i64 0, .slice none 0 0, .int .i64 0, .slice none 0 0, .slice none 0 0] 25)
  have hr := Blk.new (w.alloc (.cells #[.int .i64 p.op, .int .i64 p.cl, .slice aH p.hol.length cH, .int .i64 p.mach, .slice aS p.setup.length cS, .slice (some ⟨b, off, none⟩) p.jobs.length cJ] 25)) 25 #[.int .i64 0, .int .i64 0, .slice none 0 0, .int .i64 0, .slice none 0 0, .slice none 0 0]
  rw [show (w.alloc (.cells #[.int .i64 p.op, .int .i64 p.cl, .slice aH p.hol.length cH, .int .i64 p.mach, .slice aS p.setup.length cS, .slice (some ⟨b, off, none⟩) p.jobs.length cJ] 25)).heap.size = w.heap.size + 1 by simp] at hr
  have hB := ((Below.refl w.heap.size w).alloc (Nat.le_refl _) (.cells #[.int .i64 p.op, .int .i64 p.cl, .slice aH p.hol.length cH, .int .i64 p.mach, .slice aS p.setup.length cS, .slice (some ⟨b, off, none⟩) p.jobs.length cJ] 25)).alloc (by simp) (.cells #[.int .i64 0, .int .i64 0, .slice none 0 0, .int .i64 0, .slice none 0 0, .slice none 0 0] 25)
  go_enter Try.func46, Try.ntmps46
  go_wp2_with fail
  generalize (w.alloc (.cells #[.int .i64 p.op, .int .i64 p.cl, .slice aH p.hol.length cH, .int .i64 p.mach, .slice aS p.setup.length cS, .slice (some ⟨b, off, none⟩) p.jobs.length cJ] 25)).alloc (.cells #[.int .i64 0, .int .i64 0, .slice none 0 0, .int .i64 0, .slice none 0 0, .slice none 0 0] 25) = W at *
  have c0 := hk.cell_ 0 rfl
  have c1 := hk.cell_ 1 rfl
  have c2 := hk.cell_ 2 rfl
  have c3 := hk.cell_ 3 rfl
  have c4 := hk.cell_ 4 rfl
  have c5 := hk.cell_ 5 rfl
  have r0 := hr.cell_ 0 rfl
  have r1 := hr.cell_ 1 rfl
  have r2 := hr.cell_ 2 rfl
  have r3 := hr.cell_ 3 rfl
  have r4 := hr.cell_ 4 rfl
  have r5 := hr.cell_ 5 rfl
  go_wp2_with fail
  refine (valid_any ⟨p, aH, cH, aS, cS, some ⟨b, off, none⟩, cJ⟩ _ (hS.on hB) hfs.h1 hfs.h2 hfs.h3 hfs.h4).mono ?_
  rintro e W ⟨rfl, hb⟩
  clear c0 c1 c2 c3 c4 c5 r0 r1 r2 r3 r4 r5
  replace hk := hk.below hb hk.lt
  replace hr := hr.below hb hr.lt
  replace hB := hB.trans (hb.mono hB.size)
  clear hb
  have c0 := hk.cell_ 0 rfl
  have c1 := hk.cell_ 1 rfl
  have c2 := hk.cell_ 2 rfl
  have c3 := hk.cell_ 3 rfl
  have c4 := hk.cell_ 4 rfl
  have c5 := hk.cell_ 5 rfl
  have r0 := hr.cell_ 0 rfl
  have r1 := hr.cell_ 1 rfl
  have r2 := hr.cell_ 2 rfl
  have r3 := hr.cell_ 3 rfl
  have r4 := hr.cell_ 4 rfl
  have r5 := hr.cell_ 5 rfl
  dsimp only
  rw [hvB]
  go_wp2_with fail
  refine (within_any 0 (j : Int) (p.jobs.length - 1) _).mono ?_
  rintro e W' ⟨rfl, rfl⟩
  rw [hin]
  go_wp2_with fail
  have HSW := hS.on hB
  have hbd := (Below.refl W.heap.size W).drew
  have hrlt := hr.lt
  go_region_with (first | (go_at_call 70; (with_reducible refine (cloneInt_any aH cH p.hol _ (by omega) (HSW.hol.on hbd)).mono ?_); rintro e w1 ⟨A1, k1, rfl, hb1, hS1, hO1⟩; have hk1 := hk.drew.below hb1 hk.lt; have q4 := hk1.cell_ 4 rfl) | (go_at_call 70; (with_reducible refine (cloneInt_any aS cS p.setup _ (by omega) ((HSW.setup.on hbd).on hb1)).mono ?_); rintro e w2 ⟨A2, k2, rfl, hb2, hS2, hO2⟩; have hk2 := hk1.below hb2 hk1.lt; have q2 := hk2.cell_ 2 rfl; have q4' := hk2.cell_ 4 rfl; have f2 := hk2.frozen 2; have f4 := hk2.frozen 4))
  all_goals
    obtain ⟨W3, hW3⟩ : ∃ W3, W3 = (w2.setCell ⟨w.heap.size, 2, none⟩ (.slice A1 p.hol.length k1)).setCell ⟨w.heap.size, 4, none⟩ (.slice A2 p.setup.length k2) := ⟨_, rfl⟩
    have hc2 : Chg (fun k => k = w.heap.size) w2 (w2.setCell ⟨w.heap.size, 2, none⟩ (.slice A1 p.hol.length k1)) := Chg.set1 _
    have hc4 : Chg (fun k => k = w.heap.size) (w2.setCell ⟨w.heap.size, 2, none⟩ (.slice A1 p.hol.length k1)) W3 := by rw [hW3]; exact Chg.set1 _
    have hcc : Chg (fun k => k = w.heap.size) w2 W3 := hc2.trans hc4
    have hs1 : W.heap.size ≤ w1.heap.size := hb1.size
    have hs2 : w1.heap.size ≤ w2.heap.size := hb2.size
    have hs3 : w2.heap.size ≤ W3.heap.size := hcc.size
    have hbW2 : Below W.heap.size W w2 := (hbd.trans hb1).trans (hb2.mono hs1)
    have hk3 : Blk W3 w.heap.size 25 #[.int .i64 p.op, .int .i64 p.cl, .slice A1 p.hol.length k1, .int .i64 p.mach, .slice A2 p.setup.length k2, .slice (some ⟨b, off, none⟩) p.jobs.length cJ] := by
      have h := (hk2.set_ 2 (.slice A1 p.hol.length k1)).set_ 4 (.slice A2 p.setup.length k2)
      rw [← hW3] at h
      exact h
    have hr3 := (hr.below hbW2 hr.lt).chg1 hcc (by omega)
    have hB3 : Below w.heap.size w W3 := (hB.trans (hbW2.mono hB.size)).trans (hcc.to_below (by have := hB.size; omega) fun k hk' he => by omega)
    have hS1' : Slc intEnc 1 W3 W3.heap.size A1 p.hol := (clone_chg ((hS1.below hb2).more hs2) hO1 hcc (by show w.heap.size < W.heap.size; omega)).more hs3
    have hS2' : Slc intEnc 1 W3 W3.heap.size A2 p.setup := (clone_chg hS2 hO2 hcc (by show w.heap.size < w1.heap.size; omega)).more hs3
    have HA1 := hide (fun b off (hA : A1 = some ⟨b, off, none⟩) (hne : p.hol ≠ []) => show W.heap.size ≤ b from (hO1 hne).ge b off hA)
    have HA2 := hide (fun b off (hA : A2 = some ⟨b, off, none⟩) (hne : p.setup ≠ []) => Nat.le_trans hs1 (show w1.heap.size ≤ b from (hO2 hne).ge b off hA))
    have hWl : W.heap.size ≤ W3.heap.size := by omega
    rw [← hW3]
    clear hW3 hc2 hc4 hcc hs1 hs2 hs3 hbW2 hS1 hS2 hO1 hO2 hb1 hb2 hk1 hk2 q4 q2 q4' f2 f4 hk hr hB HSW hbd c0 c1 c2 c3 c4 c5 r0 r1 r2 r3 r4 r5
    obtain ⟨b', off', A', c', hAJ, hb0, hcj, hSl⟩ := job_at (hS.on hB3).jobs HJ.out
    obtain ⟨rfl, rfl⟩ : b = b' ∧ off = off' := by simpa using hAJ
    have hji : (j : Int) < (p.jobs.length : Int) := by omega
    have c5 := hk3.cell_ 5 rfl
    go_wp2_with fail
    refine (cloneStep_any A' c' st _ (by omega) hSl).mono ?_
    rintro e W4 ⟨A3, k3, rfl, hb, hS3, hO3⟩
    have HA3 := hide (fun b off (hA : A3 = some ⟨b, off, none⟩) (hne : st ≠ []) => Nat.le_trans hWl (show W3.heap.size ≤ b from (hO3 hne).ge b off hA))
    have hW4l := hb.size
    clear hO3
    clear c5 hcj
    have hk4 := hk3.below hb hk3.lt
    have hr4 := hr3.below hb hr3.lt
    have hB4 := hB3.trans (hb.mono hB3.size)
    have hSa := hS1'.on hb
    have hSb := hS2'.on hb
    clear hb hk3 hr3 hB3 hS1' hS2' hSl hAJ
    have hSc2 := hS3.on ((Below.refl W4.heap.size W4).alloc (Nat.le_refl _) (.cells #[.slice A3 st.length k3] 67))
    have hwk := Blk.new W4 67 #[.slice A3 st.length k3]
    have hSa2 := hSa.on ((Below.refl W4.heap.size W4).alloc (Nat.le_refl _) (.cells #[.slice A3 st.length k3] 67))
    have hSb2 := hSb.on ((Below.refl W4.heap.size W4).alloc (Nat.le_refl _) (.cells #[.slice A3 st.length k3] 67))
    have hB5 := hB4.alloc hB4.size (.cells #[.slice A3 st.length k3] 67)
    have hk5 := hk4.alloc (.cells #[.slice A3 st.length k3] 67)
    have hr5 := hr4.alloc (.cells #[.slice A3 st.length k3] 67)
    go_wp2_with (first | (refine wpList_store_at rfl 23 _ _ rfl (.slice (some ⟨W4.heap.size, 0, none⟩) 1 1) hk5 rfl rfl (by kernel_rfl) rfl (by simp) rfl ?_; intro W5 hk6 hc6; have c0 := hk6.cell_ 0 rfl; have c1 := hk6.cell_ 1 rfl; have c2 := hk6.cell_ 2 rfl; have c3 := hk6.cell_ 3 rfl; have c4 := hk6.cell_ 4 rfl; have c5 := hk6.cell_ 5 rfl; have hr6 := hr5.chg1 hc6 (by omega)) | (refine wpList_store_blk rfl 25 _ _ rfl #[.int .i64 p.op, .int .i64 p.cl, .slice A1 p.hol.length k1, .int .i64 p.mach, .slice A2 p.setup.length k2, .slice (some ⟨W4.heap.size, 0, none⟩) 1 1] hr6 rfl rfl (by kernel_rfl) rfl (by simp [Value.oneCell']) ?_; intro W6 hr7 hc7; have r0 := hr7.cell_ 0 rfl; have r1 := hr7.cell_ 1 rfl; have r2 := hr7.cell_ 2 rfl; have r3 := hr7.cell_ 3 rfl; have r4 := hr7.cell_ 4 rfl; have r5 := hr7.cell_ 5 rfl))
    have hB6 := hB5.trans (hc6.below1 hB5.size (Nat.le_refl _))
    have hB7 := hB6.trans (hc7.below1 hB6.size (by omega))
    have hc8 : Chg (fun k => k = w.heap.size ∨ k = w.heap.size + 1) (W4.alloc (.cells #[.slice A3 st.length k3] 67)) W6 := (hc6.mono fun k _ h => Or.inl h).trans (hc7.mono fun k _ h => Or.inr h)
    have key : ∀ {α : Type} {f : α → List Value} {sz : Nat} {A : Option Addr} {l : List α}, Slc f sz (W4.alloc (.cells #[.slice A3 st.length k3] 67)) (W4.alloc (.cells #[.slice A3 st.length k3] 67)).heap.size A l → (∀ b off, A = some ⟨b, off, none⟩ → l ≠ [] → W.heap.size ≤ b) → Slc f sz W6 W6.heap.size A l := fun {α f sz A l} hs hA => by
      by_cases hl : l = []
      · subst hl; exact Slc.nil_
      · refine Slc.more ?_ hc8.size
        intro i x hx
        obtain ⟨b, off, h1, h2, h3⟩ := hs i x hx
        have h4 := hA b off h1 hl
        refine ⟨b, off, h1, h2, fun q v hv => ?_⟩
        rw [World.cell?_of_block (hc8.block b h2 (by omega))]
        exact h3 q v hv
    have hwk6 := hwk.chg hc8 (by omega)
    exact bodyPost_ret (v := .tuple #[.agg #[.int .i64 p.op, .int .i64 p.cl, .slice A1 p.hol.length k1, .int .i64 p.mach, .slice A2 p.setup.length k2, .slice (some ⟨W4.heap.size, 0, none⟩) 1 1], .int .i64 0]) (by simp [results, Try.results46, go_sem, r0, r1, r2, r3, r4, r5]) rfl
      ⟨⟨oneS p st, A1, k1, A2, k2, some ⟨W4.heap.size, 0, none⟩, 1⟩, rfl, rfl, hB7, key hSa2 HA1.out, key hSb2 HA2.out, slc_work hwk6 (key hSc2 HA3.out)⟩
end Go.Proofs.Ytcpnfcnobnjhdaa
