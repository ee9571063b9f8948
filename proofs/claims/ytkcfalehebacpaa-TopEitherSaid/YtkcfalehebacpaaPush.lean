/- push: the walk. -/
import Derived.Test.YtkcfalehebacpaaMatchM
namespace Go.Proofs.Ytkcfalehebacpaa
open Go Go.RowKit
set_option maxRecDepth 100000 in
set_option maxHeartbeats 4000000 in
theorem push_any (K : Nat → Prop) (g : Nat) (AC : Option Addr) (cC cP cN bp bn bs : Nat) (C : List (List Int)) (hb1 : bs ≠ g) (hb2 : bs ≠ bp) (hb3 : bs ≠ bn) (hb4 : ∀ b, K b → b ≠ bs) (hcr : ∀ (i : Nat) l, C[i]? = some l → l.length ≤ 100) (N P : List Int) (hsh : MShape C N P) (hl1 : N.length ≤ 100) (hl2 : P.length ≤ 100) :
    ∀ (f : Nat) (S : List Bool) (job : Nat) (u : Int) (w : World), uns S < f → S.length = P.length → N[job]? = some u → (u = -1 ∨ ∃ q : Nat, u = q ∧ Sn S q) → Mem K w g AC cC cP cN bp bn C N P → Blk w bs 4 (bools S) →
    Calls Try.prog 86 #[.pointer (some ⟨g, 0, none⟩), .int .i64 job, .slice (some ⟨bs, 0, none⟩) P.length P.length] w (PushPost K g AC cC cP cN bp bn bs C N P S job w) := by
  intro f
  induction f with
  | zero => intro S job u w hf; exact absurd hf (Nat.not_lt_zero _)
  | succ f ih =>
    intro S job u w hf hSl hN hu hM hSb
    have hjl := (List.getElem?_eq_some_iff.1 hN).1
    obtain ⟨L, hL⟩ : ∃ L, C[job]? = some L := ⟨_, List.getElem?_eq_getElem (by rw [hsh.cl]; exact hjl)⟩
    have hLl := hcr job L hL
    have hji : (job : Int) < (C.length : Int) := by have := hsh.cl; omega
    have hjn : (job : Int) < (N.length : Int) := by omega
    have g0 := hM.blk.cell_ 0 rfl
    obtain ⟨b, off, A', c', hA, hKb, hcell, hrow⟩ := hM.ch job L hL
    have IH := hide ih
    have HI := hide (And.intro hsh (And.intro hcr (And.intro hb4 (And.intro hL hN))))
    have HU := hide (And.intro hu (And.intro hf hSl))
    have HROW := hide hrow
    clear ih hsh hcr hb4 hL hN hu hf hSl hrow
    subst hA
    go_enter Try.func86, Try.ntmps86
    go_wp2_with fail
    clear g0 hcell
    go_loopw [19] (fun y W => ∃ (i : Nat) (S1 : List Bool), y = .int .i64 i ∧ i ≤ L.length ∧ Mem K W g (some ⟨b, off, none⟩) cC cP cN bp bn C N P ∧ Blk W bs 4 (bools S1) ∧ Chg (Three bp bn bs) w W ∧ Hid (Mono S S1 ∧ New C N P S S1 (fun _ => False) ∧ ∀ (i' k : Nat), i' < i → L[i']? = some (k : Int) → Sn S1 k)) (fun y _ => L.length - (intOf y).toNat)
    case atStart => exact ⟨0, S, rfl, Nat.zero_le _, hM, hSb, Chg.refl _ _, hide ⟨Mono.refl _, New.start _ _, fun i' k h => absurd h (Nat.not_lt_zero _)⟩⟩
    case round =>
      clear hM hSb
      obtain ⟨W, rfl⟩ : ∃ W : World, W = wr := ⟨_, rfl⟩
      obtain ⟨i, S1, rfl, hi, hM, hSb, hC, HT⟩ := hrel
      have hK3 : Hid (∀ b, K b → ¬ Three bp bn bs b) := fun b hb h => by
        rcases h with h | h | h
        · exact (hM.kk b hb).1 h
        · exact (hM.kk b hb).2 h
        · exact HI.out.2.2.1 b hb h
      by_cases hlt : i < L.length
      · obtain ⟨v0, hv0⟩ : ∃ v, L[i]? = some v := ⟨_, List.getElem?_eq_getElem hlt⟩
        obtain ⟨k, rfl, hkP⟩ := HI.out.1.nat HI.out.2.2.2.1 (List.mem_of_getElem? hv0)
        obtain ⟨b2, off2, hA2, _, d0⟩ := (HROW.out.chg hC hK3.out) i _ hv0
        have hS1l : S1.length = P.length := HT.out.1.1.trans HU.out.2.2
        obtain ⟨s, hs⟩ : ∃ s, S1[k]? = some s := ⟨_, List.getElem?_eq_getElem (by omega)⟩
        obtain ⟨v, hv⟩ : ∃ v, P[k]? = some v := ⟨_, List.getElem?_eq_getElem hkP⟩
        have hvb := HI.out.1.pk k v hv
        have sk := hSb.cell_ k (bools_get hs)
        have hki : (k : Int) < (P.length : Int) := by omega
        have hLi : (i : Int) < (L.length : Int) := by omega
        have HV := hide (And.intro hv0 (And.intro hs hv))
        have HLn := hide hS1l
        clear hv0 hs hv hS1l
        subst hA2
        cases s with
        | true =>
          have HT2 := hide (show Mono S S1 ∧ New C N P S S1 (fun _ => False) ∧ ∀ (i' k : Nat), i' < i + 1 → L[i']? = some (k : Int) → Sn S1 k from ⟨HT.out.1, HT.out.2.1, fun i' k' h1 h2 => by
            by_cases e : i' = i
            · subst e
              rw [HV.out.1] at h2
              injection h2 with h2
              have : k = k' := by omega
              subst this; exact HV.out.2.1
            · exact HT.out.2.2 i' k' (by omega) h2⟩)
          go_wp2_with fail
          go_roundw
          case rel => exact ⟨i + 1, S1, by go_num, by omega, hM, hSb, hC, HT2⟩
          case measure => simp [intOf]; omega
        | false =>
          have HSZ := hide (bools_lt (l := S1) (i := k) (by rw [HLn.out]; exact hkP))
          have hun := uns_mark HV.out.2.1
          have hmk : Mono S (S1.set k true) := HT.out.1.trans (Mono.set S1 k)
          have hnS : ¬ Sn S k := fun h => by
            have := HT.out.1.2 k h
            unfold Sn at this
            rw [HV.out.2.1] at this
            cases this
          have hself : Sn (S1.set k true) k := Sn.self (by rw [HLn.out]; exact hkP)
          have HMK := hide (And.intro hmk (And.intro hnS (And.intro hself hun)))
          clear hmk hnS hself hun
          by_cases hpos : 0 < v
          · have e1 : IntKind.i64.wrap (v - 1) = v - 1 := IntWalk.i64_in _ (by omega)
            have HSP := hide (fun js => intJ_lt (l := P) (js := js) hkP)
            have HSN := hide (fun js => intJ_lt (l := N) (js := js) hjl)
            have HG := hide (Succ.base (S0 := S) HI.out.1 HI.out.2.2.2.1 (List.mem_of_getElem? HV.out.1) HMK.out.2.1 HV.out.2.2 hpos HI.out.2.2.2.2 HU.out.1)
            go_wp2_with (first | (refine wpList_store_at rfl 4 _ _ rfl (.bool true) hSb rfl rfl (by kernel_rfl) rfl HSZ.out rfl ?_; intro W2 hSb2 hc2; rw [bools_set] at hSb2; have hM2 := hM.far hc2 (Ne.symm hb1) (Ne.symm hb2) (Ne.symm hb3) (fun b hb => HI.out.2.2.1 b hb); obtain ⟨j1, p1⟩ := hM2.places; have g1 := hM2.blk.cell_ 1 rfl; rw [adr_pos hkP] at g1; have pk := p1.cell_ k (intJ_get HV.out.2.2)) | (refine wpList_store_at rfl 3 _ _ rfl (.int .i64 (v - 1)) p1 rfl rfl (by kernel_rfl) rfl (HSP.out _) rfl ?_; intro W3 p2 hc3; have hM3 := hM2.setP hkP p2 hc3; obtain ⟨j2, n1⟩ := hM3.night; have g2 := hM3.blk.cell_ 2 rfl) | (refine wpList_store_at rfl 3 _ _ rfl (.int .i64 k) n1 rfl rfl (by kernel_rfl) rfl (HSN.out _) rfl ?_; intro W4 n2 hc4; have hM4 := hM3.setN hjl n2 hc4))
            have hc2' : Chg (Three bp bn bs) W W2 := hc2.mono fun q _ h => .inr (.inr h)
            have hc3' : Chg (Three bp bn bs) W2 W3 := hc3.mono fun q _ h => .inl h
            have hc4' : Chg (Three bp bn bs) W3 W4 := hc4.mono fun q _ h => .inr (.inl h)
            have hSb4 := (hSb2.chg1 hc3 hb2).chg1 hc4 hb3
            go_ret
            exact ⟨true, _, _, _, rfl, hM4, hSb4, ((hC.trans hc2').trans hc3').trans hc4', HMK.out.1, fun _ => HG.out, fun h => by cases h⟩
          · have hv0' : v = 0 := by omega
            have hP0 : Hid (∀ v, P[k]? = some v → v = 0) := fun v' h => by rw [HV.out.2.2] at h; injection h with h; omega
            go_wp2_with (refine wpList_store_at rfl 4 _ _ rfl (.bool true) hSb rfl rfl (by kernel_rfl) rfl HSZ.out rfl ?_; intro W2 hSb2 hc2; rw [bools_set] at hSb2; have hM2 := hM.far hc2 (Ne.symm hb1) (Ne.symm hb2) (Ne.symm hb3) (fun b hb => HI.out.2.2.1 b hb); obtain ⟨j1, p1⟩ := hM2.places; have g1 := hM2.blk.cell_ 1 rfl; rw [adr_pos hkP] at g1; have pk := p1.cell_ k (intJ_get HV.out.2.2); have g2 := hM2.blk.cell_ 2 rfl)
            have hC2 : Chg (Three bp bn bs) w W2 := hC.trans (hc2.mono fun q _ h => .inr (.inr h))
            have HT0 := hide (show Mono S (S1.set k true) ∧ Sn (S1.set k true) k ∧ uns (S1.set k true) < f ∧ New C N P S (S1.set k true) (fun q => q = k) from ⟨HMK.out.1, HMK.out.2.2.1, by
              have h1 := uns_mono HT.out.1
              have h2 := HMK.out.2.2.2
              have h3 := HU.out.2.1
              omega, HT.out.2.1.mark k⟩)
            clear g1 g2 pk p1 hM hSb hC hc2 sk d0
            go_loopw [59] (fun y W => ∃ (x : Nat) (S3 : List Bool), y = .int .i64 x ∧ x ≤ N.length ∧ Mem K W g (some ⟨b, off, none⟩) cC cP cN bp bn C N P ∧ Blk W bs 4 (bools S3) ∧ Chg (Three bp bn bs) w W ∧ Hid (Mono (S1.set k true) S3 ∧ New C N P S S3 (fun q => q = k) ∧ ∀ (x' : Nat) l, x' < x → N[x']? = some (k : Int) → C[x']? = some l → ∀ k' : Nat, (k' : Int) ∈ l → Sn S3 k')) (fun y _ => N.length - (intOf y).toNat)
            case atStart => exact ⟨0, S1.set k true, rfl, Nat.zero_le _, hM2, hSb2, hC2, hide ⟨Mono.refl _, HT0.out.2.2.2, fun x' l h => absurd h (Nat.not_lt_zero _)⟩⟩
            case round =>
              clear hM2 hSb2 hC2
              obtain ⟨W, rfl⟩ : ∃ W : World, W = wr := ⟨_, rfl⟩
              obtain ⟨x, S3, rfl, hx, hM, hSb, hC, HR⟩ := hrel
              by_cases hltx : x < N.length
              · obtain ⟨a, ha⟩ : ∃ a, N[x]? = some a := ⟨_, List.getElem?_eq_getElem hltx⟩
                obtain ⟨j2, n1⟩ := hM.night
                have nx := n1.cell_ x (intJ_get ha)
                have hxi : (x : Int) < (N.length : Int) := by omega
                by_cases hak : a = (k : Int)
                · subst hak
                  have hlen3 : Hid (S3.length = P.length) := by
                    show _ = _
                    rw [HR.out.1.1, List.length_set]; exact HLn.out
                  have HX := hide ha
                  clear ha n1
                  go_wp2_with fail
                  refine (IH.out S3 x (k : Int) _ (by have := uns_mono HR.out.1; have := HT0.out.2.2.1; omega) hlen3.out HX.out (.inr ⟨k, rfl, HR.out.1.2 k HT0.out.2.1⟩) hM hSb).mono ?_
                  rintro e W5 ⟨r, N1, P1, S5, rfl, hM5, hSb5, hC5, hmo, hgood, hbad⟩
                  cases r with
                  | true =>
                    have HS := hide (hgood rfl)
                    have HSN := hide (fun js => intJ_lt (l := N1) (js := js) (i := job) (by rw [HS.out.nl]; exact hjl))
                    have HNl := hide HS.out.nl
                    have hjn1 : (job : Int) < (N1.length : Int) := by rw [HS.out.nl]; exact hjn
                    have HMO := hide hmo
                    obtain ⟨j3, n3⟩ := hM5.night
                    have g2 := hM5.blk.cell_ 2 rfl
                    clear hgood hbad hmo hM hSb nx
                    go_wp2_with (refine wpList_store_at rfl 3 _ _ rfl (.int .i64 k) n3 rfl rfl (by kernel_rfl) rfl (HSN.out _) rfl ?_; intro W6 n4 hc6; have hM6 := hM5.setN (by rw [HNl.out]; exact hjl) n4 hc6)
                    have hc6' : Chg (Three bp bn bs) W5 W6 := hc6.mono fun q _ h => .inr (.inl h)
                    go_ret
                    exact ⟨true, _, _, S5, rfl, hM6, hSb5.chg1 hc6 hb3, (hC.trans hC5).trans hc6', HMK.out.1.trans (HR.out.1.trans HMO.out), fun _ => Succ.step (S1 := S3) HI.out.1 HI.out.2.2.2.1 (List.mem_of_getElem? HV.out.1) hkP HMK.out.2.1 (HMK.out.1.trans HR.out.1) (HR.out.1.2 k HT0.out.2.1) HI.out.2.2.2.2 HU.out.1 HX.out HS.out, fun h => by cases h⟩
                  | false =>
                    obtain ⟨rfl, rfl, hfail⟩ := hbad rfl
                    have HF := hide hfail
                    clear hgood hbad hfail hM hSb nx
                    have HR2 := hide (show Mono (S1.set k true) S5 ∧ New C N1 P1 S S5 (fun q => q = k) ∧ ∀ (x' : Nat) l, x' < x + 1 → N1[x']? = some (k : Int) → C[x']? = some l → ∀ k' : Nat, (k' : Int) ∈ l → Sn S5 k' from ⟨HR.out.1.trans HF.out.mono, HR.out.2.1.fail HF.out, fun x' l h1 h2 h3 k' h4 => by
                      by_cases e : x' = x
                      · subst e; exact HF.out.all l h3 k' h4
                      · exact HF.out.mono.2 k' (HR.out.2.2 x' l (by omega) h2 h3 k' h4)⟩)
                    clear hmo
                    go_wp2_with fail
                    go_roundw
                    case rel => exact ⟨x + 1, S5, by go_num, by omega, hM5, hSb5, hC.trans hC5, HR2⟩
                    case measure => simp [intOf]; omega
                · have hab : (a == (k : Int)) = false := by simpa using hak
                  have HR2 := hide (show Mono (S1.set k true) S3 ∧ New C N P S S3 (fun q => q = k) ∧ ∀ (x' : Nat) l, x' < x + 1 → N[x']? = some (k : Int) → C[x']? = some l → ∀ k' : Nat, (k' : Int) ∈ l → Sn S3 k' from ⟨HR.out.1, HR.out.2.1, fun x' l h1 h2 h3 => by
                    by_cases e : x' = x
                    · subst e
                      rw [ha] at h2
                      injection h2 with h2
                      exact absurd h2 hak
                    · exact HR.out.2.2 x' l (by omega) h2 h3⟩)
                  clear hak ha n1
                  go_wp2_with fail
                  go_roundw
                  case rel => exact ⟨x + 1, S3, by go_num, by omega, hM, hSb, hC, HR2⟩
                  case measure => simp [intOf]; omega
              · obtain rfl : x = N.length := by omega
                have HT2 := hide (show Mono S S3 ∧ New C N P S S3 (fun _ => False) ∧ ∀ (i' k : Nat), i' < i + 1 → L[i']? = some (k : Int) → Sn S3 k from ⟨HMK.out.1.trans HR.out.1, HR.out.2.1.close hP0.out (fun i' l h1 h2 => HR.out.2.2 i' l (List.getElem?_eq_some_iff.1 h1).1 h1 h2), fun i' k' h1 h2 => by
                  by_cases e : i' = i
                  · subst e
                    rw [HV.out.1] at h2
                    injection h2 with h2
                    have : k = k' := by omega
                    subst this; exact HR.out.1.2 k HT0.out.2.1
                  · exact HR.out.1.2 k' ((Mono.set S1 k).2 k' (HT.out.2.2 i' k' (by omega) h2))⟩)
                go_wp2_with fail
                go_roundw
                case rel => exact ⟨i + 1, S3, by go_num, by omega, hM, hSb, hC, HT2⟩
                case measure => simp [intOf]; omega
      · obtain rfl : i = L.length := by omega
        go_wp2_with fail
        go_ret
        exact ⟨false, N, P, S1, rfl, hM, hSb, hC, HT.out.1, fun h => (by cases h), fun _ => ⟨rfl, rfl, HT.out.1, fun l hl k hk => by
          rw [HI.out.2.2.2.1] at hl
          injection hl with hl
          subst hl
          obtain ⟨i', hi'⟩ := List.getElem?_of_mem hk
          exact HT.out.2.2 i' k (List.getElem?_eq_some_iff.1 hi').1 hi', HT.out.2.1⟩⟩
end Go.Proofs.Ytkcfalehebacpaa
