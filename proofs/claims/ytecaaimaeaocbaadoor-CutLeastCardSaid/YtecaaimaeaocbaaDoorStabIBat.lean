/- The library's stable sort of api.Batch: insertion (after the kit's slices.insertionSortCmpFunc at structs, which is proved over another program's text). -/
import Derived.Test.YtecaaimaeaocbaaDoorStabBat
namespace Go.Proofs.YtecaaimaeaocbaaDoor
open Go Go.Sort Go.RowKit Go.Lib Go.Shelf Go.Proofs
namespace StabBat
variable {P : Program} {α : Type} [Inhabited α]
section
variable {k : Nat} (L : Lay P k) (enc : α → List Value) (hk : ∀ x, (enc x).length = k) (h1 : ∀ x, ∀ v ∈ enc x, v.oneCell' = true)
include L hk h1
set_option maxHeartbeats 4000000 in
set_option maxRecDepth 1000000 in
theorem insertion_any (cf : α → α → Int) (g : Nat) (cb : Array Value) (blk off cap a b : Nat) (d : Array α) (w : World)
    (eg : ∀ args w, (callFunc g args).run P w = .ok (.enter g args) w) (hcmp : CmpLays P g cb enc k cf blk off d.size w) (hH : HoldsK enc k w blk off d) (hblk : blk < w.heap.size) (hab : a ≤ b) (hb : b ≤ d.size) (hsz : d.size < 4611686018427387904) :
    Calls P 131 #[.slice (some ⟨blk, off, none⟩) d.size cap, .int .i64 a, .int .i64 b, .func (.func g) #[] cb] w fun e w' =>
      e = .returned (.tuple #[]) ∧ ∃ n os, w' = sortWorldK enc k w blk off n (Sort.insertionSort (ltOf cf) d a b) os := by
  have mixed := L.mixed; have tS := L.tS; have aS := L.aS; have zS := L.zS; have vS := L.vS; have t3 := L.t3; have a3 := L.a3; have z3 := L.z3; have v3 := L.v3; have t4 := L.t4; have a4 := L.a4; have z4 := L.z4; have v4 := L.v4; have aE := L.aE; have zE := L.zE; have tU := L.tU; have aU := L.aU; have zU := L.zU; have vU := L.vU
  have uS := run_underlying L.tS
  have eIns := L.eIns; have eSwr := L.eSwr; have eRot := L.eRot; have eSym := L.eSym; have eStb := L.eStb
  have HC : Aside _ := hcmp
  have HST : Hid (w = sortWorldK enc k w blk off 0 d #[]) := by show w = _; unfold sortWorldK; rw [grow_empty]; exact (putRowK_self enc k w blk off d hH).symm
  have HH : Hid (HoldsK enc k w blk off d) := hH
  have HK : Hid (∀ x, (enc x).length = k) := hk
  have H1 : Hid (∀ x, ∀ v ∈ enc x, v.oneCell' = true) := h1
  clear hcmp hH hk h1
  go_enter L.fIns, Tryd.ntmps131
  go_wp2
  go_loopg [8] (b - a) (fun g1 vi wr => ∃ (i n : Nat) (dk : Array α) (os : Array Obj), vi = .int .i64 i ∧ a < i ∧ i ≤ b + 1 ∧ b + 1 - i ≤ g1 + 1 ∧ dk.size = d.size ∧ wr = sortWorldK enc k w blk off n dk os ∧ Hid (insOuter (ltOf cf) a b i dk = insOuter (ltOf cf) a b (a + 1) d))
  case atStart => exact ⟨a + 1, 0, d, #[], by go_num, by omega, by omega, by omega, rfl, HST.out, rfl⟩
  case round =>
    obtain ⟨i, n, dk, os, rfl, hai, hib, hg1, hsk, rfl, HO⟩ := hrel
    by_cases hlt : i < b
    · have hltz : (i : Int) < (b : Int) := by omega
      go_wp2
      -- the inner loop
      go_loopg [9] i (fun g2 vj wr2 => ∃ (j m : Nat) (dj : Array α) (oj : Array Obj), vj = .int .i64 j ∧ a ≤ j ∧ j ≤ i ∧ j ≤ g2 ∧ dj.size = d.size ∧ wr2 = sortWorldK enc k w blk off m dj oj ∧ Hid (insInner (ltOf cf) a j dj = insInner (ltOf cf) a i dk))
      case atStart => exact ⟨i, n, dk, os, rfl, by omega, Nat.le_refl _, Nat.le_refl _, hsk, rfl, rfl⟩
      case round =>
        obtain ⟨j, m, dj, oj, rfl, haj, hji, hg2, hsj, rfl, HI⟩ := hrel
        have out : (j ≤ a ∨ ltOf cf dj[j]! dj[j - 1]! = false) → Hid (insOuter (ltOf cf) a b (i + 1) dj = insOuter (ltOf cf) a b (a + 1) d) := fun hs => by
          show _ = _
          rw [← HO.out, insOuter_go _ _ _ _ _ hlt, ← HI.out, insInner_stop _ _ _ _ hs]
        have OUT : Aside _ := out
        clear out
        by_cases hja : a < j
        · have hjaz : (a : Int) < (j : Int) := by omega
          obtain ⟨jp, rfl⟩ : ∃ jp, j = jp + 1 := ⟨j - 1, by omega⟩
          obtain ⟨xj, hxj⟩ : ∃ x, dj[jp + 1]! = x := ⟨_, rfl⟩
          obtain ⟨xp, hxp⟩ : ∃ x, dj[jp]! = x := ⟨_, rfl⟩
          have hwp : IntKind.i64.wrap (jp : Int) = (jp : Int) := by rw [IntKind.wrap_i64]; omega
          have jz : (jp : Int) + 1 < (d.size : Int) := by omega
          have jz1 : (jp : Int) < (d.size : Int) := by omega
          have hjaz' : (a : Int) < (jp : Int) + 1 := by omega
          have p0 : (0 : Int) ≤ (jp : Int) + 1 := by omega
          have e0 : ((jp : Int) + 1).toNat = jp + 1 := by omega
          -- every world of the class is one of the sort's
          have hcls : ∀ n' os', grow ((sortWorldK enc k w blk off m dj oj).drewN n') os' = sortWorldK enc k w blk off (m + n') dj (oj ++ os') := fun n' os' => sortWorldK_grown_c enc k w blk off m n' dj oj os'
          have hHc : ∀ n' os', HoldsK enc k (grow ((sortWorldK enc k w blk off m dj oj).drewN n') os') blk off dj := fun n' os' => by rw [hcls]; exact holdsK_sortWorldK_c enc k w blk off d dj _ _ HH.out hblk hsj
          have lj : ∀ n' os', Sem.run P (loadCellsFrom ⟨blk, off + (jp + 1) * k, none⟩ 0 k #[]) (grow ((sortWorldK enc k w blk off m dj oj).drewN n') os') = .ok (enc xj).toArray (grow ((sortWorldK enc k w blk off m dj oj).drewN n') os') := fun n' os' => by
            rw [← hxj]; exact run_loadCellsFrom_list P _ _ _ k (HK.out _) (HoldsK.cells (hHc n' os') HK.out (by omega))
          have lp : ∀ n' os', Sem.run P (loadCellsFrom ⟨blk, off + jp * k, none⟩ 0 k #[]) (grow ((sortWorldK enc k w blk off m dj oj).drewN n') os') = .ok (enc xp).toArray (grow ((sortWorldK enc k w blk off m dj oj).drewN n') os') := fun n' os' => by
            rw [← hxp]; exact run_loadCellsFrom_list P _ _ _ k (HK.out _) (HoldsK.cells (hHc n' os') HK.out (by omega))
          have hcg : ∀ n' os', Calls P g (#[.agg (enc xj).toArray, .agg (enc xp).toArray] ++ cb) (grow ((sortWorldK enc k w blk off m dj oj).drewN n') os') fun e w' => e = .returned (.int .i64 (cf xj xp)) ∧ ∃ q os'', w' = grow ((grow ((sortWorldK enc k w blk off m dj oj).drewN n') os').drewN q) os'' := fun n' os' => by
            rw [hcls]; exact HC.out _ _ dj hsj xj xp
          have CLS : Hid _ := hcls
          clear hcls hHc
          generalize hwq : sortWorldK enc k w blk off m dj oj = wq at lj lp hcg CLS ⊢
          by_cases hlv : cf xj xp < 0
          · go_wp2_with fail
            go_quiet_grown (first | (go_at_fn g; refine Calls.grown_of (hcg _ _)))
            go_wp2_with fail
            have hw2 : grow (wq.drewN nq) osq = sortWorldK enc k w blk off (m + nq) dj (oj ++ osq) := CLS.out nq osq
            have hHd : HoldsK enc k (grow (wq.drewN nq) osq).drew blk off dj := by
              have : HoldsK enc k (grow (wq.drewN nq) osq) blk off dj := by rw [hw2]; exact holdsK_sortWorldK_c enc k w blk off d dj _ _ HH.out hblk hsj
              exact this
            have bnd : ∀ x, x < dj.size → x * k + k ≤ dj.size * k := fun x hx => by
              have := Nat.mul_le_mul_right k (show x + 1 ≤ dj.size from hx); rwa [Nat.add_mul, Nat.one_mul] at this
            clear lj lp hcg
            generalize grow (wq.drewN nq) osq = wq2 at hw2 hHd ⊢
            have lj2 : Sem.run P (loadCellsFrom ⟨blk, off + (jp + 1) * k, none⟩ 0 k #[]) wq2.drew = .ok (enc xj).toArray wq2.drew := by rw [← hxj]; exact run_loadCellsFrom_list P _ _ _ k (HK.out _) (HoldsK.cells hHd HK.out (by omega))
            have lp2 : Sem.run P (loadCellsFrom ⟨blk, off + jp * k, none⟩ 0 k #[]) wq2.drew = .ok (enc xp).toArray wq2.drew := by rw [← hxp]; exact run_loadCellsFrom_list P _ _ _ k (HK.out _) (HoldsK.cells hHd HK.out (by omega))
            have s1 : Sem.run P (storeCells ⟨blk, off + (jp + 1) * k, none⟩ (enc xp) 0) wq2.drew = .ok () (wq2.drew.setCells blk (off + (jp + 1) * k) (enc xp)) := stores_of_holds P hHd ((jp + 1) * k) _ (by rw [HK.out, size_flatK]; exact bnd (jp + 1) (by omega)) (H1.out _)
            have s2 : Sem.run P (storeCells ⟨blk, off + jp * k, none⟩ (enc xj) 0) (wq2.drew.setCells blk (off + (jp + 1) * k) (enc xp)) = .ok () ((wq2.drew.setCells blk (off + (jp + 1) * k) (enc xp)).setCells blk (off + jp * k) (enc xj)) :=
              stores_of_holds P (holds_setCells_c hHd ((jp + 1) * k) _ (by rw [HK.out, size_flatK]; exact bnd (jp + 1) (by omega))) (jp * k) _ (by rw [HK.out, size_setMany, size_flatK]; exact bnd jp (by omega)) (H1.out _)
            have hsJ : (enc xj).length = k := HK.out _
            have hsP : (enc xp).length = k := HK.out _
            have HW2 : Hid (wq2 = sortWorldK enc k w blk off (m + nq) dj (oj ++ osq)) := hw2
            clear hw2 hHd bnd
            obtain ⟨cJ, hcJ⟩ : ∃ c, c = enc xj := ⟨_, rfl⟩
            obtain ⟨cP, hcP⟩ : ∃ c, c = enc xp := ⟨_, rfl⟩
            rw [← hcP] at s1 lp2 hsP
            rw [← hcJ] at lj2 hsJ
            rw [← hcJ, ← hcP] at s2
            have CC : Hid (cJ = enc xj ∧ cP = enc xp) := ⟨hcJ, hcP⟩
            clear hcJ hcP
            go_big_region_o
            all_goals go_wp2
            go_roundg jp
            case measure => omega
            case rel =>
              refine ⟨jp, m + nq + 1, swp dj (jp + 1) jp, oj ++ osq, by first | rfl | go_num | (congr 1; omega), by omega, by omega, Nat.le_refl _, by rw [size_swp]; exact hsj, ?_, (show Hid _ from ?_)⟩
              · rw [CC.out.1, CC.out.2, HW2.out, ← hxp, ← hxj]
                exact sortWorldK_swp_c enc k w blk off HK.out (m + nq) dj (oj ++ osq) hblk (jp + 1) jp (by omega) (by omega)
              · show _ = _
                have := insInner_go (ltOf cf) a (jp + 1) dj hja (by simp only [Nat.add_sub_cancel]; rw [hxj, hxp]; exact decide_eq_true hlv)
                simp only [Nat.add_sub_cancel] at this
                rw [← HI.out, this]
          · -- not less: out of the inner loop
            go_wp2_with fail
            go_quiet_grown (first | (go_at_fn g; refine Calls.grown_of (hcg _ _)))
            go_wp2
            go_roundg (b - (i + 1))
            case measure => omega
            case rel => exact ⟨i + 1, _, dj, _, by go_num, by omega, by omega, by omega, hsj, CLS.out nq osq, OUT.out (Or.inr (by simp only [Nat.add_sub_cancel]; rw [hxj, hxp]; exact decide_eq_false (by omega)))⟩
        · -- j = a: out of the inner loop (the guard is false: 'cmp' is not called)
          have hjaz : decide ((j : Int) > (a : Int)) = false := decide_eq_false (by omega)
          have hjaz' : ¬ (a : Int) < (j : Int) := by omega
          have hdr : (sortWorldK enc k w blk off m dj oj).drew = sortWorldK enc k w blk off (m + 1) dj oj := rfl
          generalize hwq : sortWorldK enc k w blk off m dj oj = wq at hdr
          have HDR : Hid _ := hdr
          clear hdr
          go_wp2_with fail
          go_big_region_o
          all_goals go_wp2
          go_roundg (b - (i + 1))
          case measure => omega
          case rel => exact ⟨i + 1, m + 1, dj, oj, by go_num, by omega, by omega, by omega, hsj, HDR.out, OUT.out (Or.inl (by omega))⟩
    · have hltz : ¬ (i : Int) < (b : Int) := by omega
      go_wp2
      go_end0
      exact ⟨rfl, n, os, by unfold Sort.insertionSort; rw [← HO.out, insOuter_stop _ _ _ _ _ hlt]⟩
end
end StabBat
end Go.Proofs.YtecaaimaeaocbaaDoor
