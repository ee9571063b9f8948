/- Parts of the proofs of this seat: ShopAlone. Each part says what it proves; no condition beyond those stated there. -/
import Derived.Laws.StructEq
import Derived.ChangeKeysEq
import Derived.Test.YtcpnfcnobnjhdaaB37
import Derived.Test.YtcpnfcnobnjhdaaB45

/- The law ShopAlone: the walk. -/
namespace Go.Proofs.Ytcpnfcnobnjhdaa
open Go Go.RowKit
theorem fields_step : (Try.prog.fieldsOf 69).toList.map (fun f => (f.name == "_", f.type, f.offset)) = [(false, 3, 0), (false, 3, 1), (false, 3, 2), (false, 3, 3)] := by kernel_rfl
theorem neq_step (a b c d : Int) (w : World) : (binOp .neq 69 (.agg #[.int .i64 a, .int .i64 b, .int .i64 c, .int .i64 d]) (.agg #[.int .i64 a, .int .i64 b, .int .i64 c, .int .i64 d])).run Try.prog w = .ok (.bool false) w := by
  have hf := fields_step
  have he : (Op.equalIn 10000 69 (.agg #[.int .i64 a, .int .i64 b, .int .i64 c, .int .i64 d]) (.agg #[.int .i64 a, .int .i64 b, .int .i64 c, .int .i64 d])).run Try.prog w = .ok true w := by
    rw [run_equalIn_struct w 9999 _ _ _ (by kernel_rfl) (by kernel_rfl)]
    obtain ⟨f0, f1, f2, f3, hl, h0, h1, h2, h3⟩ : ∃ f0 f1 f2 f3, (Try.prog.fieldsOf 69).toList = [f0, f1, f2, f3] ∧ ((f0.name == "_") = false ∧ f0.type = 3 ∧ f0.offset = 0) ∧ ((f1.name == "_") = false ∧ f1.type = 3 ∧ f1.offset = 1) ∧ ((f2.name == "_") = false ∧ f2.type = 3 ∧ f2.offset = 2) ∧ ((f3.name == "_") = false ∧ f3.type = 3 ∧ f3.offset = 3) := by
      generalize (Try.prog.fieldsOf 69).toList = l at hf
      have hlen : l.length = 4 := by have := congrArg List.length hf; simpa using this
      match l, hlen, hf with
      | [f0, f1, f2, f3], _, hf => simp only [List.map_cons, List.map_nil, List.cons.injEq, Prod.mk.injEq] at hf; exact ⟨f0, f1, f2, f3, rfl, hf.1, hf.2.1, hf.2.2.1, hf.2.2.2.1⟩
    rw [hl]
    have n0 : f0.name ≠ "_" := by simpa using h0.1
    have n1 : f1.name ≠ "_" := by simpa using h1.1
    have n2 : f2.name ≠ "_" := by simpa using h2.1
    have n3 : f3.name ≠ "_" := by simpa using h3.1
    simp [Op.eqFields, n0, n1, n2, n3, h0.2.1, h0.2.2, h1.2.1, h1.2.2, h2.2.1, h2.2.2, h3.2.1, h3.2.2, part, isAgg, run_underlying Try.underlying3, run_equalIn_int]
  simp [binOp, Op.equal, Op.maxDepth, he]
def alikeB (st : List Step) (n : Nat) : Bool := (st.take n).all fun x => x.c == (st.getD 0 ⟨0, 0, 0, 0⟩).c
theorem alike_snoc {st : List Step} {k : Nat} {x : Step} (h : st[k]? = some x) : alikeB st (k + 1) = (alikeB st k && (x.c == (st.getD 0 ⟨0, 0, 0, 0⟩).c)) := by
  unfold alikeB
  rw [List.take_add_one, h]
  simp
theorem alike_yes {st : List Step} (h : alikeB st st.length = true) : ∃ c0, ∀ (k : Nat) x, st[k]? = some x → x.c = c0 := by
  unfold alikeB at h
  rw [List.take_length, List.all_eq_true] at h
  exact ⟨_, fun k x hx => by simpa using h x (List.mem_of_getElem? hx)⟩
set_option maxRecDepth 100000 in
theorem alone_no (s : Sh) (j : Int) (w : World) (hS : ShAt w w.heap.size s) (hvB : validShop s.p = true) (hj : inB 0 j (s.p.jobs.length - 1) = false) :
    Calls Try.prog 46 #[.agg #[.int .i64 s.p.op, .int .i64 s.p.cl, .slice s.aH s.p.hol.length s.cH, .int .i64 s.p.mach, .slice s.aS s.p.setup.length s.cS, .slice s.aJ s.p.jobs.length s.cJ], .int .i64 j] w fun e w' => e = .returned (.tuple #[.agg #[.int .i64 0, .int .i64 0, .slice none 0 0, .int .i64 0, .slice none 0 0, .slice none 0 0], .int .i64 2]) ∧ Below w.heap.size w w' := by
  have hv := valid_facts hvB
  have hfs := hv.fits
  have hjn := hv.jobn
  have hk := (Blk.new w 25 #[.int .i64 s.p.op, .int .i64 s.p.cl, .slice s.aH s.p.hol.length s.cH, .int .i64 s.p.mach, .slice s.aS s.p.setup.length s.cS, .slice s.aJ s.p.jobs.length s.cJ]).alloc (.cells #[.int .i64 0, .int .i64 0, .slice none 0 0, .int .i64 0, .slice none 0 0, .slice none 0 0] 25)
  have hr := Blk.new (w.alloc (.cells #[.int .i64 s.p.op, .int .i64 s.p.cl, .slice s.aH s.p.hol.length s.cH, .int .i64 s.p.mach, .slice s.aS s.p.setup.length s.cS, .slice s.aJ s.p.jobs.length s.cJ] 25)) 25 #[.int .i64 0, .int .i64 0, .slice none 0 0, .int .i64 0, .slice none 0 0, .slice none 0 0]
  rw [show (w.alloc (.cells #[.int .i64 s.p.op, .int .i64 s.p.cl, .slice s.aH s.p.hol.length s.cH, .int .i64 s.p.mach, .slice s.aS s.p.setup.length s.cS, .slice s.aJ s.p.jobs.length s.cJ] 25)).heap.size = w.heap.size + 1 by simp] at hr
  have hB := ((Below.refl w.heap.size w).alloc (Nat.le_refl _) (.cells #[.int .i64 s.p.op, .int .i64 s.p.cl, .slice s.aH s.p.hol.length s.cH, .int .i64 s.p.mach, .slice s.aS s.p.setup.length s.cS, .slice s.aJ s.p.jobs.length s.cJ] 25)).alloc (by simp) (.cells #[.int .i64 0, .int .i64 0, .slice none 0 0, .int .i64 0, .slice none 0 0, .slice none 0 0] 25)
  go_enter Try.func46, Try.ntmps46
  go_wp2_with fail
  generalize (w.alloc (.cells #[.int .i64 s.p.op, .int .i64 s.p.cl, .slice s.aH s.p.hol.length s.cH, .int .i64 s.p.mach, .slice s.aS s.p.setup.length s.cS, .slice s.aJ s.p.jobs.length s.cJ] 25)).alloc (.cells #[.int .i64 0, .int .i64 0, .slice none 0 0, .int .i64 0, .slice none 0 0, .slice none 0 0] 25) = W at *
  have c0 := hk.cell_ 0 rfl
  have c1 := hk.cell_ 1 rfl
  have c2 := hk.cell_ 2 rfl
  have c3 := hk.cell_ 3 rfl
  have c4 := hk.cell_ 4 rfl
  have c5 := hk.cell_ 5 rfl
  have r0 := hr.cell_ 0 rfl
  have r1 := hr.cell_ 1 rfl
  have r2 := hr.cell_ 2 rfl
  have r3 := hr.cell_ 3 rfl
  have r4 := hr.cell_ 4 rfl
  have r5 := hr.cell_ 5 rfl
  go_wp2_with fail
  refine (valid_any s _ (hS.on hB) hfs.h1 hfs.h2 hfs.h3 hfs.h4).mono ?_
  rintro e W ⟨rfl, hb⟩
  clear c0 c1 c2 c3 c4 c5 r0 r1 r2 r3 r4 r5
  replace hk := hk.below hb hk.lt
  replace hr := hr.below hb hr.lt
  replace hB := hB.trans (hb.mono hB.size)
  clear hb
  have c0 := hk.cell_ 0 rfl
  have c1 := hk.cell_ 1 rfl
  have c2 := hk.cell_ 2 rfl
  have c3 := hk.cell_ 3 rfl
  have c4 := hk.cell_ 4 rfl
  have c5 := hk.cell_ 5 rfl
  have r0 := hr.cell_ 0 rfl
  have r1 := hr.cell_ 1 rfl
  have r2 := hr.cell_ 2 rfl
  have r3 := hr.cell_ 3 rfl
  have r4 := hr.cell_ 4 rfl
  have r5 := hr.cell_ 5 rfl
  rw [hvB]
  go_wp2_with fail
  refine (within_any 0 j (s.p.jobs.length - 1) _).mono ?_
  rintro e W' ⟨rfl, rfl⟩
  rw [hj]
  go_wp2_with (refine wpList_store_blk rfl 25 _ _ rfl #[.int .i64 0, .int .i64 0, .slice none 0 0, .int .i64 0, .slice none 0 0, .slice none 0 0] hr rfl rfl (by kernel_rfl) rfl (by simp [Value.oneCell']) ?_; intro W6 hr7 hc7; have t0 := hr7.cell_ 0 rfl; have t1 := hr7.cell_ 1 rfl; have t2 := hr7.cell_ 2 rfl; have t3 := hr7.cell_ 3 rfl; have t4 := hr7.cell_ 4 rfl; have t5 := hr7.cell_ 5 rfl)
  have hB7 := hB.trans (hc7.below1 hB.size (by omega))
  exact bodyPost_ret (v := .tuple #[.agg #[.int .i64 0, .int .i64 0, .slice none 0 0, .int .i64 0, .slice none 0 0, .slice none 0 0], .int .i64 2]) (by simp [results, Try.results46, go_sem, t0, t1, t2, t3, t4, t5]) rfl ⟨rfl, hB7⟩
set_option maxRecDepth 200000 in
set_option maxHeartbeats 8000000 in
theorem alone_walk (s : Sh) (J : Int) (w : World) (hS : ShAt w w.heap.size s) (hf : Fits s.p) (b1l : -9223372036854775808 ≤ J) (b1h : J ≤ 9223372036854775807) :
    Calls Try.prog 15 #[.agg #[.int .i64 s.p.op, .int .i64 s.p.cl, .slice s.aH s.p.hol.length s.cH, .int .i64 s.p.mach, .slice s.aS s.p.setup.length s.cS, .slice s.aJ s.p.jobs.length s.cJ], .int .i64 J] w fun e w' => e = .returned (.bool true) ∧ Below w.heap.size w w' := by
  have hk := Blk.new w 25 #[.int .i64 s.p.op, .int .i64 s.p.cl, .slice s.aH s.p.hol.length s.cH, .int .i64 s.p.mach, .slice s.aS s.p.setup.length s.cS, .slice s.aJ s.p.jobs.length s.cJ]
  have hB := (Below.refl w.heap.size w).alloc (Nat.le_refl _) (.cells #[.int .i64 s.p.op, .int .i64 s.p.cl, .slice s.aH s.p.hol.length s.cH, .int .i64 s.p.mach, .slice s.aS s.p.setup.length s.cS, .slice s.aJ s.p.jobs.length s.cJ] 25)
  go_enter Try.func15, Try.ntmps15
  go_wp2_with fail
  generalize w.alloc (.cells #[.int .i64 s.p.op, .int .i64 s.p.cl, .slice s.aH s.p.hol.length s.cH, .int .i64 s.p.mach, .slice s.aS s.p.setup.length s.cS, .slice s.aJ s.p.jobs.length s.cJ] 25) = W at *
  have c0 := hk.cell_ 0 rfl
  have c1 := hk.cell_ 1 rfl
  have c2 := hk.cell_ 2 rfl
  have c3 := hk.cell_ 3 rfl
  have c4 := hk.cell_ 4 rfl
  have c5 := hk.cell_ 5 rfl
  go_wp2_with fail
  refine (long_any s _ (hS.on hB) hf.h1 hf.h2 hf.h3 hf.h4).mono ?_
  rintro e W ⟨rfl, hb⟩
  clear c0 c1 c2 c3 c4 c5
  replace hk := hk.below hb hk.lt
  replace hB := hB.trans (hb.mono hB.size)
  clear hb
  have c0 := hk.cell_ 0 rfl
  have c1 := hk.cell_ 1 rfl
  have c2 := hk.cell_ 2 rfl
  have c3 := hk.cell_ 3 rfl
  have c4 := hk.cell_ 4 rfl
  have c5 := hk.cell_ 5 rfl
  cases hl : longB s.p
  case true =>
    go_wp2_with fail
    refine (first_any _).mono ?_
    rintro e W ⟨rfl, hb⟩
    clear c0 c1 c2 c3 c4 c5
    replace hk := hk.below hb hk.lt
    replace hB := hB.trans (hb.mono hB.size)
    clear hb
    have c0 := hk.cell_ 0 rfl
    have c1 := hk.cell_ 1 rfl
    have c2 := hk.cell_ 2 rfl
    have c3 := hk.cell_ 3 rfl
    have c4 := hk.cell_ 4 rfl
    have c5 := hk.cell_ 5 rfl
    go_wp2_with fail
    go_ret
    exact ⟨rfl, hB⟩
  go_wp2_with fail
  refine (refValid_any s _ (hS.on hB) hf.h1 hf.h2 hf.h3 hf.h4).mono ?_
  rintro e W ⟨rfl, hb⟩
  clear c0 c1 c2 c3 c4 c5
  replace hk := hk.below hb hk.lt
  replace hB := hB.trans (hb.mono hB.size)
  clear hb
  have c0 := hk.cell_ 0 rfl
  have c1 := hk.cell_ 1 rfl
  have c2 := hk.cell_ 2 rfl
  have c3 := hk.cell_ 3 rfl
  have c4 := hk.cell_ 4 rfl
  have c5 := hk.cell_ 5 rfl
  cases hvB : validShop s.p
  case false =>
    go_wp2_with fail
    refine (first_any _).mono ?_
    rintro e W ⟨rfl, hb⟩
    clear c0 c1 c2 c3 c4 c5
    replace hk := hk.below hb hk.lt
    replace hB := hB.trans (hb.mono hB.size)
    clear hb
    have c0 := hk.cell_ 0 rfl
    have c1 := hk.cell_ 1 rfl
    have c2 := hk.cell_ 2 rfl
    have c3 := hk.cell_ 3 rfl
    have c4 := hk.cell_ 4 rfl
    have c5 := hk.cell_ 5 rfl
    go_wp2_with fail
    go_ret
    exact ⟨rfl, hB⟩
  have hv := valid_facts hvB
  have hjn := hv.jobn
  rcases (show (J < 0 ∨ (s.p.jobs.length : Int) ≤ J) ∨ (0 ≤ J ∧ J < s.p.jobs.length) by omega) with ho | ⟨h0, h1⟩
  · go_wp2_with fail
    refine (alone_no s J _ (hS.on hB) hvB (inB_false.2 (by omega))).mono ?_
    rintro e W ⟨rfl, hb⟩
    clear c0 c1 c2 c3 c4 c5
    replace hk := hk.below hb hk.lt
    replace hB := hB.trans (hb.mono hB.size)
    clear hb
    have c0 := hk.cell_ 0 rfl
    have c1 := hk.cell_ 1 rfl
    have c2 := hk.cell_ 2 rfl
    have c3 := hk.cell_ 3 rfl
    have c4 := hk.cell_ 4 rfl
    have c5 := hk.cell_ 5 rfl
    by_cases hm0 : J < 0
    · have q_c0 := (hk.alloc (.cells #[.int .i64 0, .int .i64 0, .slice none 0 0, .int .i64 0, .slice none 0 0, .slice none 0 0] 25)).cell_ 0 rfl
      have q_c1 := (hk.alloc (.cells #[.int .i64 0, .int .i64 0, .slice none 0 0, .int .i64 0, .slice none 0 0, .slice none 0 0] 25)).cell_ 1 rfl
      have q_c2 := (hk.alloc (.cells #[.int .i64 0, .int .i64 0, .slice none 0 0, .int .i64 0, .slice none 0 0, .slice none 0 0] 25)).cell_ 2 rfl
      have q_c3 := (hk.alloc (.cells #[.int .i64 0, .int .i64 0, .slice none 0 0, .int .i64 0, .slice none 0 0, .slice none 0 0] 25)).cell_ 3 rfl
      have q_c4 := (hk.alloc (.cells #[.int .i64 0, .int .i64 0, .slice none 0 0, .int .i64 0, .slice none 0 0, .slice none 0 0] 25)).cell_ 4 rfl
      have q_c5 := (hk.alloc (.cells #[.int .i64 0, .int .i64 0, .slice none 0 0, .int .i64 0, .slice none 0 0, .slice none 0 0] 25)).cell_ 5 rfl
      go_wp2_with fail
      clear q_c0 q_c1 q_c2 q_c3 q_c4 q_c5
      clear c0 c1 c2 c3 c4 c5
      have hr := Blk.new W 25 #[.int .i64 0, .int .i64 0, .slice none 0 0, .int .i64 0, .slice none 0 0, .slice none 0 0]
      replace hk := hk.alloc (.cells #[.int .i64 0, .int .i64 0, .slice none 0 0, .int .i64 0, .slice none 0 0, .slice none 0 0] 25)
      replace hB := hB.alloc hB.size (.cells #[.int .i64 0, .int .i64 0, .slice none 0 0, .int .i64 0, .slice none 0 0, .slice none 0 0] 25)
      generalize W.alloc (.cells #[.int .i64 0, .int .i64 0, .slice none 0 0, .int .i64 0, .slice none 0 0, .slice none 0 0] 25) = W at *
      have c0 := hk.cell_ 0 rfl
      have c1 := hk.cell_ 1 rfl
      have c2 := hk.cell_ 2 rfl
      have c3 := hk.cell_ 3 rfl
      have c4 := hk.cell_ 4 rfl
      have c5 := hk.cell_ 5 rfl
      have o0 := hr.cell_ 0 rfl
      have o1 := hr.cell_ 1 rfl
      have o2 := hr.cell_ 2 rfl
      have o3 := hr.cell_ 3 rfl
      have o4 := hr.cell_ 4 rfl
      have o5 := hr.cell_ 5 rfl
      go_wp2_with fail
      refine (first_any _).mono ?_
      rintro e W ⟨rfl, hb⟩
      clear c0 c1 c2 c3 c4 c5 o0 o1 o2 o3 o4 o5
      replace hk := hk.below hb hk.lt
      replace hr := hr.below hb hr.lt
      replace hB := hB.trans (hb.mono hB.size)
      clear hb
      have c0 := hk.cell_ 0 rfl
      have c1 := hk.cell_ 1 rfl
      have c2 := hk.cell_ 2 rfl
      have c3 := hk.cell_ 3 rfl
      have c4 := hk.cell_ 4 rfl
      have c5 := hk.cell_ 5 rfl
      have o0 := hr.cell_ 0 rfl
      have o1 := hr.cell_ 1 rfl
      have o2 := hr.cell_ 2 rfl
      have o3 := hr.cell_ 3 rfl
      have o4 := hr.cell_ 4 rfl
      have o5 := hr.cell_ 5 rfl
      go_wp2_with fail
      go_ret
      exact ⟨rfl, hB⟩
    · have hge : (s.p.jobs.length : Int) ≤ J := by omega
      have q_c0 := (hk.alloc (.cells #[.int .i64 0, .int .i64 0, .slice none 0 0, .int .i64 0, .slice none 0 0, .slice none 0 0] 25)).cell_ 0 rfl
      have q_c1 := (hk.alloc (.cells #[.int .i64 0, .int .i64 0, .slice none 0 0, .int .i64 0, .slice none 0 0, .slice none 0 0] 25)).cell_ 1 rfl
      have q_c2 := (hk.alloc (.cells #[.int .i64 0, .int .i64 0, .slice none 0 0, .int .i64 0, .slice none 0 0, .slice none 0 0] 25)).cell_ 2 rfl
      have q_c3 := (hk.alloc (.cells #[.int .i64 0, .int .i64 0, .slice none 0 0, .int .i64 0, .slice none 0 0, .slice none 0 0] 25)).cell_ 3 rfl
      have q_c4 := (hk.alloc (.cells #[.int .i64 0, .int .i64 0, .slice none 0 0, .int .i64 0, .slice none 0 0, .slice none 0 0] 25)).cell_ 4 rfl
      have q_c5 := (hk.alloc (.cells #[.int .i64 0, .int .i64 0, .slice none 0 0, .int .i64 0, .slice none 0 0, .slice none 0 0] 25)).cell_ 5 rfl
      go_wp2_with fail
      clear q_c0 q_c1 q_c2 q_c3 q_c4 q_c5
      clear c0 c1 c2 c3 c4 c5
      have hr := Blk.new W 25 #[.int .i64 0, .int .i64 0, .slice none 0 0, .int .i64 0, .slice none 0 0, .slice none 0 0]
      replace hk := hk.alloc (.cells #[.int .i64 0, .int .i64 0, .slice none 0 0, .int .i64 0, .slice none 0 0, .slice none 0 0] 25)
      replace hB := hB.alloc hB.size (.cells #[.int .i64 0, .int .i64 0, .slice none 0 0, .int .i64 0, .slice none 0 0, .slice none 0 0] 25)
      generalize W.alloc (.cells #[.int .i64 0, .int .i64 0, .slice none 0 0, .int .i64 0, .slice none 0 0, .slice none 0 0] 25) = W at *
      have c0 := hk.cell_ 0 rfl
      have c1 := hk.cell_ 1 rfl
      have c2 := hk.cell_ 2 rfl
      have c3 := hk.cell_ 3 rfl
      have c4 := hk.cell_ 4 rfl
      have c5 := hk.cell_ 5 rfl
      have o0 := hr.cell_ 0 rfl
      have o1 := hr.cell_ 1 rfl
      have o2 := hr.cell_ 2 rfl
      have o3 := hr.cell_ 3 rfl
      have o4 := hr.cell_ 4 rfl
      have o5 := hr.cell_ 5 rfl
      go_wp2_with fail
      refine (first_any _).mono ?_
      rintro e W ⟨rfl, hb⟩
      clear c0 c1 c2 c3 c4 c5 o0 o1 o2 o3 o4 o5
      replace hk := hk.below hb hk.lt
      replace hr := hr.below hb hr.lt
      replace hB := hB.trans (hb.mono hB.size)
      clear hb
      have c0 := hk.cell_ 0 rfl
      have c1 := hk.cell_ 1 rfl
      have c2 := hk.cell_ 2 rfl
      have c3 := hk.cell_ 3 rfl
      have c4 := hk.cell_ 4 rfl
      have c5 := hk.cell_ 5 rfl
      have o0 := hr.cell_ 0 rfl
      have o1 := hr.cell_ 1 rfl
      have o2 := hr.cell_ 2 rfl
      have o3 := hr.cell_ 3 rfl
      have o4 := hr.cell_ 4 rfl
      have o5 := hr.cell_ 5 rfl
      go_wp2_with fail
      go_ret
      exact ⟨rfl, hB⟩
  · obtain ⟨j, rfl⟩ : ∃ j : Nat, J = j := ⟨J.toNat, by omega⟩
    have hjl : j < s.p.jobs.length := by omega
    obtain ⟨st, hj⟩ : ∃ st, s.p.jobs[j]? = some st := ⟨_, List.getElem?_eq_getElem hjl⟩
    have hs8 := (hv.steps j st hj).1
    have hh := hv.holn
    have hset2 : s.p.setup.length ≤ 6 := by have := hv.setn; have := hv.mach6; omega
    have HV1 := hide (one_valid hvB hj)
    have hae := alone_end hvB hj
    have hge := hae.1
    have HAE := hide hae.2
    have HCV := hide (show chainV s.p (j : Int) = .tuple #[.int .i64 (chainF s.p st), .int .i64 0] by
      rw [chainV_ok (inB_iff.2 ⟨by omega, by omega⟩)]
      rw [show (j : Int).toNat = j by simp, jobF_at hj])
    have HDJ := hide (disp_judge (valid_facts HV1.out))
    have HDF := hide (dispF_fits (valid_facts HV1.out))
    have HJ := hide hj
    clear hae
    go_wp2_with fail
    refine (alone_ok s j st _ (hS.on hB) hvB hj).mono ?_
    rintro e W9 ⟨⟨q, A1, k1, A2, k2, A3, k3⟩, hq, rfl, hb, hS1⟩
    dsimp only at hq
    subst hq
    obtain ⟨W, rfl⟩ : ∃ W : World, W = W9 := ⟨_, rfl⟩
    clear c0 c1 c2 c3 c4 c5
    replace hk := hk.below hb hk.lt
    replace hB := hB.trans (hb.mono hB.size)
    clear hb hj
    have c0 := hk.cell_ 0 rfl
    have c1 := hk.cell_ 1 rfl
    have c2 := hk.cell_ 2 rfl
    have c3 := hk.cell_ 3 rfl
    have c4 := hk.cell_ 4 rfl
    have c5 := hk.cell_ 5 rfl
    simp only [oneS, List.length_cons, List.length_nil, Nat.zero_add]
    obtain ⟨b1, off1, A4, k4, hA3, hb1, hc1, _⟩ := job_at hS1.jobs (k := 0) (l := st) rfl
    dsimp only at hA3
    subst hA3
    clear hc1 hb1
    have q_c0 := (hk.alloc (.cells #[.int .i64 s.p.op, .int .i64 s.p.cl, .slice A1 s.p.hol.length k1, .int .i64 s.p.mach, .slice A2 s.p.setup.length k2, .slice (some ⟨b1, off1, none⟩) 1 k3] 25)).cell_ 0 rfl
    have q_c1 := (hk.alloc (.cells #[.int .i64 s.p.op, .int .i64 s.p.cl, .slice A1 s.p.hol.length k1, .int .i64 s.p.mach, .slice A2 s.p.setup.length k2, .slice (some ⟨b1, off1, none⟩) 1 k3] 25)).cell_ 1 rfl
    have q_c2 := (hk.alloc (.cells #[.int .i64 s.p.op, .int .i64 s.p.cl, .slice A1 s.p.hol.length k1, .int .i64 s.p.mach, .slice A2 s.p.setup.length k2, .slice (some ⟨b1, off1, none⟩) 1 k3] 25)).cell_ 2 rfl
    have q_c3 := (hk.alloc (.cells #[.int .i64 s.p.op, .int .i64 s.p.cl, .slice A1 s.p.hol.length k1, .int .i64 s.p.mach, .slice A2 s.p.setup.length k2, .slice (some ⟨b1, off1, none⟩) 1 k3] 25)).cell_ 3 rfl
    have q_c4 := (hk.alloc (.cells #[.int .i64 s.p.op, .int .i64 s.p.cl, .slice A1 s.p.hol.length k1, .int .i64 s.p.mach, .slice A2 s.p.setup.length k2, .slice (some ⟨b1, off1, none⟩) 1 k3] 25)).cell_ 4 rfl
    have q_c5 := (hk.alloc (.cells #[.int .i64 s.p.op, .int .i64 s.p.cl, .slice A1 s.p.hol.length k1, .int .i64 s.p.mach, .slice A2 s.p.setup.length k2, .slice (some ⟨b1, off1, none⟩) 1 k3] 25)).cell_ 5 rfl
    go_wp2_with fail
    clear q_c0 q_c1 q_c2 q_c3 q_c4 q_c5
    clear c0 c1 c2 c3 c4 c5
    have hr := Blk.new W 25 #[.int .i64 s.p.op, .int .i64 s.p.cl, .slice A1 s.p.hol.length k1, .int .i64 s.p.mach, .slice A2 s.p.setup.length k2, .slice (some ⟨b1, off1, none⟩) 1 k3]
    replace hk := hk.alloc (.cells #[.int .i64 s.p.op, .int .i64 s.p.cl, .slice A1 s.p.hol.length k1, .int .i64 s.p.mach, .slice A2 s.p.setup.length k2, .slice (some ⟨b1, off1, none⟩) 1 k3] 25)
    replace hS1 := hS1.on ((Below.refl _ W).alloc (Nat.le_refl _) (.cells #[.int .i64 s.p.op, .int .i64 s.p.cl, .slice A1 s.p.hol.length k1, .int .i64 s.p.mach, .slice A2 s.p.setup.length k2, .slice (some ⟨b1, off1, none⟩) 1 k3] 25))
    have hsz_br : (W.alloc (.cells #[.int .i64 s.p.op, .int .i64 s.p.cl, .slice A1 s.p.hol.length k1, .int .i64 s.p.mach, .slice A2 s.p.setup.length k2, .slice (some ⟨b1, off1, none⟩) 1 k3] 25)).heap.size = W.heap.size + 1 := by simp
    have brge := hB.size
    replace hB := hB.alloc hB.size (.cells #[.int .i64 s.p.op, .int .i64 s.p.cl, .slice A1 s.p.hol.length k1, .int .i64 s.p.mach, .slice A2 s.p.setup.length k2, .slice (some ⟨b1, off1, none⟩) 1 k3] 25)
    generalize hbr : W.heap.size = br at *
    generalize W.alloc (.cells #[.int .i64 s.p.op, .int .i64 s.p.cl, .slice A1 s.p.hol.length k1, .int .i64 s.p.mach, .slice A2 s.p.setup.length k2, .slice (some ⟨b1, off1, none⟩) 1 k3] 25) = W at *
    clear hbr
    have c0 := hk.cell_ 0 rfl
    have c1 := hk.cell_ 1 rfl
    have c2 := hk.cell_ 2 rfl
    have c3 := hk.cell_ 3 rfl
    have c4 := hk.cell_ 4 rfl
    have c5 := hk.cell_ 5 rfl
    have o0 := hr.cell_ 0 rfl
    have o1 := hr.cell_ 1 rfl
    have o2 := hr.cell_ 2 rfl
    have o3 := hr.cell_ 3 rfl
    have o4 := hr.cell_ 4 rfl
    have o5 := hr.cell_ 5 rfl
    obtain ⟨b, off, A5, k5, hAJ, hb0, hcj, hSj⟩ := job_at (hS.on hB).jobs HJ.out
    obtain ⟨b1', off1', A4, k4, hA3, hb1, hc1, hS4⟩ := job_at hS1.jobs (k := 0) (l := st) rfl
    obtain ⟨rfl, rfl⟩ : b1 = b1' ∧ off1 = off1' := by simpa using hA3
    rw [Nat.add_zero] at hc1
    clear hA3
    have HJ2 := hide HJ.out
    clear HJ
    obtain ⟨p, aH, cH, aS, cS, aJ, cJ⟩ := s
    dsimp only at *
    subst hAJ
    have hji : (j : Int) < (p.jobs.length : Int) := by omega
    go_wp2_with fail
    refine wp_region_quiet (C := fun w' => ∃ u : Since W, w' = u.w) (by kernel_rfl) (by kernel_rfl) (Since.start W) ?_
    dsimp only
    have y_c0 := Since.cell c0
    have y_c1 := Since.cell c1
    have y_c2 := Since.cell c2
    have y_c3 := Since.cell c3
    have y_c4 := Since.cell c4
    have y_c5 := Since.cell c5
    have y_o0 := Since.cell o0
    have y_o1 := Since.cell o1
    have y_o2 := Since.cell o2
    have y_o3 := Since.cell o3
    have y_o4 := Since.cell o4
    have y_o5 := Since.cell o5
    have y_hcj := Since.cell hcj
    have y_hc1 := Since.cell hc1
    clear c0 c1 c2 c3 c4 c5 o0 o1 o2 o3 o4 o5
    repeat (go_big_quiet_step ((fail)))
    refine wpQuiet_nil ?_
    rintro W ⟨⟨_, hb⟩, rfl⟩
    try dsimp only at hb ⊢
    replace hcj : W.cell? _ = _ := y_hcj ⟨W, hb⟩
    replace hc1 : W.cell? _ = _ := y_hc1 ⟨W, hb⟩
    clear y_c0 y_c1 y_c2 y_c3 y_c4 y_c5 y_o0 y_o1 y_o2 y_o3 y_o4 y_o5 y_hcj y_hc1
    replace hk := hk.below hb hk.lt
    replace hr := hr.below hb hr.lt
    replace hS1 := hS1.on hb
    replace hB := hB.trans (hb.mono hB.size)
    clear hb
    have c0 := hk.cell_ 0 rfl
    have c1 := hk.cell_ 1 rfl
    have c2 := hk.cell_ 2 rfl
    have c3 := hk.cell_ 3 rfl
    have c4 := hk.cell_ 4 rfl
    have c5 := hk.cell_ 5 rfl
    have o0 := hr.cell_ 0 rfl
    have o1 := hr.cell_ 1 rfl
    have o2 := hr.cell_ 2 rfl
    have o3 := hr.cell_ 3 rfl
    have o4 := hr.cell_ 4 rfl
    have o5 := hr.cell_ 5 rfl
    clear hcj hc1 hSj hS4 hb0 hb1
    go_wp2_with fail
    clear c0 c1 c2 c3 c4 c5 o0 o1 o2 o3 o4 o5
    go_loopw [7, 8] (fun a y W => ∃ k : Nat, a = .bool (alikeB st k) ∧ y = .int .i64 k ∧ k ≤ st.length ∧ Blk W w.heap.size 25 #[.int .i64 p.op, .int .i64 p.cl, .slice aH p.hol.length cH, .int .i64 p.mach, .slice aS p.setup.length cS, .slice (some ⟨b, off, none⟩) p.jobs.length cJ] ∧ Blk W br 25 #[.int .i64 p.op, .int .i64 p.cl, .slice A1 p.hol.length k1, .int .i64 p.mach, .slice A2 p.setup.length k2, .slice (some ⟨b1, off1, none⟩) 1 k3] ∧ ShAt W W.heap.size ⟨oneS p st, A1, k1, A2, k2, some ⟨b1, off1, none⟩, k3⟩ ∧ Below w.heap.size w W) (fun a y _ => st.length - (intOf y).toNat)
    case atStart => exact ⟨0, rfl, rfl, Nat.zero_le _, hk, hr, hS1, hB⟩
    case round =>
      clear hk hB hS1 hr
      obtain ⟨W, rfl⟩ : ∃ W : World, W = wr := ⟨_, rfl⟩
      obtain ⟨k, rfl, rfl, hk2, hk, hr, hS1, hB⟩ := hrel
      obtain ⟨b', off', A5, k5, hAJ, hb0, hcj, hSj⟩ := job_at (hS.on hB).jobs HJ2.out
      obtain ⟨rfl, rfl⟩ : b = b' ∧ off = off' := by simpa using hAJ
      obtain ⟨b1', off1', A4, k4, hA3, hb1, hc1, hS4⟩ := job_at hS1.jobs (k := 0) (l := st) rfl
      obtain ⟨rfl, rfl⟩ : b1 = b1' ∧ off1 = off1' := by simpa using hA3
      rw [Nat.add_zero] at hc1
      clear hAJ hA3
      have c0 := hk.cell_ 0 rfl
      have c1 := hk.cell_ 1 rfl
      have c2 := hk.cell_ 2 rfl
      have c3 := hk.cell_ 3 rfl
      have c4 := hk.cell_ 4 rfl
      have c5 := hk.cell_ 5 rfl
      have o0 := hr.cell_ 0 rfl
      have o1 := hr.cell_ 1 rfl
      have o2 := hr.cell_ 2 rfl
      have o3 := hr.cell_ 3 rfl
      have o4 := hr.cell_ 4 rfl
      have o5 := hr.cell_ 5 rfl
      by_cases hlt : k < st.length
      · obtain ⟨x, hx⟩ : ∃ x, st[k]? = some x := ⟨_, List.getElem?_eq_getElem hlt⟩
        obtain ⟨x0, hx0⟩ : ∃ x, st[0]? = some x := ⟨_, List.getElem?_eq_getElem (by omega)⟩
        obtain ⟨b2, off2, hA5, hb2, d0, d1, d2, d3⟩ := hSj.at4_ hx
        obtain ⟨b3, off3, hA4, hb3, e0, e1, e2, e3⟩ := hS4.at4_ hx
        subst hA5 hA4
        obtain ⟨b2', off2', hA5, _, _, _, f2, _⟩ := hSj.at4_ hx0
        obtain ⟨rfl, rfl⟩ : b2 = b2' ∧ off2 = off2' := by simpa using hA5
        rw [Nat.zero_mul, Nat.add_zero] at f2
        have hne := neq_step x.m x.mi x.c x.d
        have HSN : Hid (alikeB st (k + 1) = (alikeB st k && (x.c == x0.c))) := by
          show _ = _
          rw [alike_snoc hx, List.getD_eq_getElem?_getD, hx0]; rfl
        have hki : (k : Int) < (st.length : Int) := by omega
        have h0i : (0 : Int) < (st.length : Int) := by omega
        clear hx hx0 hA5 hSj hS4
        go_wp2_with fail
        refine wp_region_quiet (C := fun w' => ∃ u : Since W, w' = u.w) (by kernel_rfl) (by kernel_rfl) (Since.start W) ?_
        dsimp only
        have y_c0 := Since.cell c0
        have y_c1 := Since.cell c1
        have y_c2 := Since.cell c2
        have y_c3 := Since.cell c3
        have y_c4 := Since.cell c4
        have y_c5 := Since.cell c5
        have y_o0 := Since.cell o0
        have y_o1 := Since.cell o1
        have y_o2 := Since.cell o2
        have y_o3 := Since.cell o3
        have y_o4 := Since.cell o4
        have y_o5 := Since.cell o5
        have y_hcj := Since.cell hcj
        have y_hc1 := Since.cell hc1
        have y_d0 := Since.cell d0
        have y_d1 := Since.cell d1
        have y_d2 := Since.cell d2
        have y_d3 := Since.cell d3
        have y_e0 := Since.cell e0
        have y_e1 := Since.cell e1
        have y_e2 := Since.cell e2
        have y_e3 := Since.cell e3
        have y_f2 := Since.cell f2
        clear c0 c1 c2 c3 c4 c5 o0 o1 o2 o3 o4 o5
        repeat (go_big_quiet_step ((fail)))
        refine wpQuiet_nil ?_
        rintro W ⟨⟨_, hb⟩, rfl⟩
        try dsimp only at hb ⊢
        replace hcj : W.cell? _ = _ := y_hcj ⟨W, hb⟩
        replace hc1 : W.cell? _ = _ := y_hc1 ⟨W, hb⟩
        replace d0 : W.cell? _ = _ := y_d0 ⟨W, hb⟩
        replace d1 : W.cell? _ = _ := y_d1 ⟨W, hb⟩
        replace d2 : W.cell? _ = _ := y_d2 ⟨W, hb⟩
        replace d3 : W.cell? _ = _ := y_d3 ⟨W, hb⟩
        replace e0 : W.cell? _ = _ := y_e0 ⟨W, hb⟩
        replace e1 : W.cell? _ = _ := y_e1 ⟨W, hb⟩
        replace e2 : W.cell? _ = _ := y_e2 ⟨W, hb⟩
        replace e3 : W.cell? _ = _ := y_e3 ⟨W, hb⟩
        replace f2 : W.cell? _ = _ := y_f2 ⟨W, hb⟩
        clear y_c0 y_c1 y_c2 y_c3 y_c4 y_c5 y_o0 y_o1 y_o2 y_o3 y_o4 y_o5 y_hcj y_hc1 y_d0 y_d1 y_d2 y_d3 y_e0 y_e1 y_e2 y_e3 y_f2
        replace hk := hk.below hb hk.lt
        replace hr := hr.below hb hr.lt
        replace hS1 := hS1.on hb
        replace hB := hB.trans (hb.mono hB.size)
        clear hb
        have c0 := hk.cell_ 0 rfl
        have c1 := hk.cell_ 1 rfl
        have c2 := hk.cell_ 2 rfl
        have c3 := hk.cell_ 3 rfl
        have c4 := hk.cell_ 4 rfl
        have c5 := hk.cell_ 5 rfl
        have o0 := hr.cell_ 0 rfl
        have o1 := hr.cell_ 1 rfl
        have o2 := hr.cell_ 2 rfl
        have o3 := hr.cell_ 3 rfl
        have o4 := hr.cell_ 4 rfl
        have o5 := hr.cell_ 5 rfl
        go_wp2_with fail
        cases hal : alikeB st k with
        | true =>
          by_cases hcc : x.c = x0.c
          · have hcb : (x.c == x0.c) = true := by simpa using hcc
            have hs2 : Hid (alikeB st (k + 1) = true) := by show _ = _; rw [HSN.out, hal, hcb]; rfl
            clear hal hcc
            go_wp2_with fail
            refine wp_region_quiet (C := fun w' => ∃ u : Since W, w' = u.w) (by kernel_rfl) (by kernel_rfl) (Since.start W) ?_
            dsimp only
            have y_c0 := Since.cell c0
            have y_c1 := Since.cell c1
            have y_c2 := Since.cell c2
            have y_c3 := Since.cell c3
            have y_c4 := Since.cell c4
            have y_c5 := Since.cell c5
            have y_o0 := Since.cell o0
            have y_o1 := Since.cell o1
            have y_o2 := Since.cell o2
            have y_o3 := Since.cell o3
            have y_o4 := Since.cell o4
            have y_o5 := Since.cell o5
            have y_hcj := Since.cell hcj
            have y_f2 := Since.cell f2
            have y_d2 := Since.cell d2
            clear c0 c1 c2 c3 c4 c5 o0 o1 o2 o3 o4 o5
            repeat (go_big_quiet_step ((fail)))
            refine wpQuiet_nil ?_
            rintro W ⟨⟨_, hb⟩, rfl⟩
            try dsimp only at hb ⊢
            replace hcj : W.cell? _ = _ := y_hcj ⟨W, hb⟩
            replace f2 : W.cell? _ = _ := y_f2 ⟨W, hb⟩
            replace d2 : W.cell? _ = _ := y_d2 ⟨W, hb⟩
            clear y_c0 y_c1 y_c2 y_c3 y_c4 y_c5 y_o0 y_o1 y_o2 y_o3 y_o4 y_o5 y_hcj y_f2 y_d2
            replace hk := hk.below hb hk.lt
            replace hr := hr.below hb hr.lt
            replace hS1 := hS1.on hb
            replace hB := hB.trans (hb.mono hB.size)
            clear hb
            have c0 := hk.cell_ 0 rfl
            have c1 := hk.cell_ 1 rfl
            have c2 := hk.cell_ 2 rfl
            have c3 := hk.cell_ 3 rfl
            have c4 := hk.cell_ 4 rfl
            have c5 := hk.cell_ 5 rfl
            have o0 := hr.cell_ 0 rfl
            have o1 := hr.cell_ 1 rfl
            have o2 := hr.cell_ 2 rfl
            have o3 := hr.cell_ 3 rfl
            have o4 := hr.cell_ 4 rfl
            have o5 := hr.cell_ 5 rfl
            go_wp2_with fail
            go_roundw
            case rel => exact ⟨k + 1, by rw [hs2.out], by go_num, by omega, hk, hr, hS1, hB⟩
            case measure => simp [intOf]; omega
          · have hcb : (x.c == x0.c) = false := by simpa using hcc
            have hs2 : Hid (alikeB st (k + 1) = false) := by show _ = _; rw [HSN.out, hal, hcb]; rfl
            clear hal hcc
            go_wp2_with fail
            refine wp_region_quiet (C := fun w' => ∃ u : Since W, w' = u.w) (by kernel_rfl) (by kernel_rfl) (Since.start W) ?_
            dsimp only
            have y_c0 := Since.cell c0
            have y_c1 := Since.cell c1
            have y_c2 := Since.cell c2
            have y_c3 := Since.cell c3
            have y_c4 := Since.cell c4
            have y_c5 := Since.cell c5
            have y_o0 := Since.cell o0
            have y_o1 := Since.cell o1
            have y_o2 := Since.cell o2
            have y_o3 := Since.cell o3
            have y_o4 := Since.cell o4
            have y_o5 := Since.cell o5
            have y_hcj := Since.cell hcj
            have y_f2 := Since.cell f2
            have y_d2 := Since.cell d2
            clear c0 c1 c2 c3 c4 c5 o0 o1 o2 o3 o4 o5
            repeat (go_big_quiet_step ((fail)))
            refine wpQuiet_nil ?_
            rintro W ⟨⟨_, hb⟩, rfl⟩
            try dsimp only at hb ⊢
            replace hcj : W.cell? _ = _ := y_hcj ⟨W, hb⟩
            replace f2 : W.cell? _ = _ := y_f2 ⟨W, hb⟩
            replace d2 : W.cell? _ = _ := y_d2 ⟨W, hb⟩
            clear y_c0 y_c1 y_c2 y_c3 y_c4 y_c5 y_o0 y_o1 y_o2 y_o3 y_o4 y_o5 y_hcj y_f2 y_d2
            replace hk := hk.below hb hk.lt
            replace hr := hr.below hb hr.lt
            replace hS1 := hS1.on hb
            replace hB := hB.trans (hb.mono hB.size)
            clear hb
            have c0 := hk.cell_ 0 rfl
            have c1 := hk.cell_ 1 rfl
            have c2 := hk.cell_ 2 rfl
            have c3 := hk.cell_ 3 rfl
            have c4 := hk.cell_ 4 rfl
            have c5 := hk.cell_ 5 rfl
            have o0 := hr.cell_ 0 rfl
            have o1 := hr.cell_ 1 rfl
            have o2 := hr.cell_ 2 rfl
            have o3 := hr.cell_ 3 rfl
            have o4 := hr.cell_ 4 rfl
            have o5 := hr.cell_ 5 rfl
            go_wp2_with fail
            go_roundw
            case rel => exact ⟨k + 1, by rw [hs2.out], by go_num, by omega, hk, hr, hS1, hB⟩
            case measure => simp [intOf]; omega
        | false =>
          have hs2 : Hid (alikeB st (k + 1) = false) := by show _ = _; rw [HSN.out, hal]; rfl
          clear hal
          go_wp2_with fail
          refine wp_region_quiet (C := fun w' => ∃ u : Since W, w' = u.w) (by kernel_rfl) (by kernel_rfl) (Since.start W) ?_
          dsimp only
          have y_c0 := Since.cell c0
          have y_c1 := Since.cell c1
          have y_c2 := Since.cell c2
          have y_c3 := Since.cell c3
          have y_c4 := Since.cell c4
          have y_c5 := Since.cell c5
          have y_o0 := Since.cell o0
          have y_o1 := Since.cell o1
          have y_o2 := Since.cell o2
          have y_o3 := Since.cell o3
          have y_o4 := Since.cell o4
          have y_o5 := Since.cell o5
          have y_hcj := Since.cell hcj
          have y_f2 := Since.cell f2
          have y_d2 := Since.cell d2
          clear c0 c1 c2 c3 c4 c5 o0 o1 o2 o3 o4 o5
          repeat (go_big_quiet_step ((fail)))
          refine wpQuiet_nil ?_
          rintro W ⟨⟨_, hb⟩, rfl⟩
          try dsimp only at hb ⊢
          replace hcj : W.cell? _ = _ := y_hcj ⟨W, hb⟩
          replace f2 : W.cell? _ = _ := y_f2 ⟨W, hb⟩
          replace d2 : W.cell? _ = _ := y_d2 ⟨W, hb⟩
          clear y_c0 y_c1 y_c2 y_c3 y_c4 y_c5 y_o0 y_o1 y_o2 y_o3 y_o4 y_o5 y_hcj y_f2 y_d2
          replace hk := hk.below hb hk.lt
          replace hr := hr.below hb hr.lt
          replace hS1 := hS1.on hb
          replace hB := hB.trans (hb.mono hB.size)
          clear hb
          have c0 := hk.cell_ 0 rfl
          have c1 := hk.cell_ 1 rfl
          have c2 := hk.cell_ 2 rfl
          have c3 := hk.cell_ 3 rfl
          have c4 := hk.cell_ 4 rfl
          have c5 := hk.cell_ 5 rfl
          have o0 := hr.cell_ 0 rfl
          have o1 := hr.cell_ 1 rfl
          have o2 := hr.cell_ 2 rfl
          have o3 := hr.cell_ 3 rfl
          have o4 := hr.cell_ 4 rfl
          have o5 := hr.cell_ 5 rfl
          go_wp2_with fail
          go_roundw
          case rel => exact ⟨k + 1, by rw [hs2.out], by go_num, by omega, hk, hr, hS1, hB⟩
          case measure => simp [intOf]; omega
      · obtain rfl : k = st.length := by omega
        have HAL2 : Hid (alikeB st st.length = true → endV (oneS p st) (dispF (oneS p st)) = chainF p st) := fun h => HAE.out (alike_yes h)
        clear hSj hS4
        generalize alikeB st st.length = al at *
        go_wp2_with fail
        clear hcj hc1
        clear c0 c1 c2 c3 c4 c5 o0 o1 o2 o3 o4 o5
        go_loopw [9] (fun y W => ∃ m : Nat, y = .int .i64 m ∧ m ≤ p.setup.length ∧ Blk W w.heap.size 25 #[.int .i64 p.op, .int .i64 p.cl, .slice aH p.hol.length cH, .int .i64 p.mach, .slice aS p.setup.length cS, .slice (some ⟨b, off, none⟩) p.jobs.length cJ] ∧ Blk W br 25 #[.int .i64 p.op, .int .i64 p.cl, .slice A1 p.hol.length k1, .int .i64 p.mach, .slice A2 p.setup.length k2, .slice (some ⟨b1, off1, none⟩) 1 k3] ∧ ShAt W W.heap.size ⟨oneS p st, A1, k1, A2, k2, some ⟨b1, off1, none⟩, k3⟩ ∧ Below w.heap.size w W) (fun y _ => p.setup.length - (intOf y).toNat)
        case atStart => exact ⟨0, rfl, Nat.zero_le _, hk, hr, hS1, hB⟩
        case round =>
          clear hk hB hS1 hr
          obtain ⟨W, rfl⟩ : ∃ W : World, W = wr := ⟨_, rfl⟩
          obtain ⟨m, rfl, hm, hk, hr, hS1, hB⟩ := hrel
          have c0 := hk.cell_ 0 rfl
          have c1 := hk.cell_ 1 rfl
          have c2 := hk.cell_ 2 rfl
          have c3 := hk.cell_ 3 rfl
          have c4 := hk.cell_ 4 rfl
          have c5 := hk.cell_ 5 rfl
          have o0 := hr.cell_ 0 rfl
          have o1 := hr.cell_ 1 rfl
          have o2 := hr.cell_ 2 rfl
          have o3 := hr.cell_ 3 rfl
          have o4 := hr.cell_ 4 rfl
          have o5 := hr.cell_ 5 rfl
          by_cases hlt2 : m < p.setup.length
          · obtain ⟨v, hv2⟩ : ∃ v, p.setup[m]? = some v := ⟨_, List.getElem?_eq_getElem hlt2⟩
            obtain ⟨g1, o1, hG1, hg1, d0⟩ := int_at (hS.on hB).setup hv2
            obtain ⟨g2, o2, hG2, hg2, d1⟩ := int_at hS1.setup hv2
            dsimp only at hG1 hG2
            subst hG1 hG2
            have hmi : (m : Int) < (p.setup.length : Int) := by omega
            clear hv2
            go_wp2_with fail
            refine wp_region_quiet (C := fun w' => ∃ u : Since W, w' = u.w) (by kernel_rfl) (by kernel_rfl) (Since.start W) ?_
            dsimp only
            have y_c0 := Since.cell c0
            have y_c1 := Since.cell c1
            have y_c2 := Since.cell c2
            have y_c3 := Since.cell c3
            have y_c4 := Since.cell c4
            have y_c5 := Since.cell c5
            have y_o0 := Since.cell o0
            have y_o1 := Since.cell o1
            have y_o2 := Since.cell o2
            have y_o3 := Since.cell o3
            have y_o4 := Since.cell o4
            have y_o5 := Since.cell o5
            have y_d0 := Since.cell d0
            have y_d1 := Since.cell d1
            clear c0 c1 c2 c3 c4 c5 o0 o1 o2 o3 o4 o5
            repeat (go_big_quiet_step ((fail)))
            refine wpQuiet_nil ?_
            rintro W ⟨⟨_, hb⟩, rfl⟩
            try dsimp only at hb ⊢
            replace d0 : W.cell? _ = _ := y_d0 ⟨W, hb⟩
            replace d1 : W.cell? _ = _ := y_d1 ⟨W, hb⟩
            clear y_c0 y_c1 y_c2 y_c3 y_c4 y_c5 y_o0 y_o1 y_o2 y_o3 y_o4 y_o5 y_d0 y_d1
            replace hk := hk.below hb hk.lt
            replace hr := hr.below hb hr.lt
            replace hS1 := hS1.on hb
            replace hB := hB.trans (hb.mono hB.size)
            clear hb
            have c0 := hk.cell_ 0 rfl
            have c1 := hk.cell_ 1 rfl
            have c2 := hk.cell_ 2 rfl
            have c3 := hk.cell_ 3 rfl
            have c4 := hk.cell_ 4 rfl
            have c5 := hk.cell_ 5 rfl
            have o0 := hr.cell_ 0 rfl
            have o1 := hr.cell_ 1 rfl
            have o2 := hr.cell_ 2 rfl
            have o3 := hr.cell_ 3 rfl
            have o4 := hr.cell_ 4 rfl
            have o5 := hr.cell_ 5 rfl
            go_wp2_with fail
            go_roundw
            case rel => exact ⟨m + 1, by go_num, by omega, hk, hr, hS1, hB⟩
            case measure => simp [intOf]; omega
          · obtain rfl : m = p.setup.length := by omega
            go_wp2_with fail
            clear c0 c1 c2 c3 c4 c5 o0 o1 o2 o3 o4 o5
            go_loopw [10] (fun y W => ∃ i : Nat, y = .int .i64 i ∧ i ≤ p.hol.length ∧ Blk W w.heap.size 25 #[.int .i64 p.op, .int .i64 p.cl, .slice aH p.hol.length cH, .int .i64 p.mach, .slice aS p.setup.length cS, .slice (some ⟨b, off, none⟩) p.jobs.length cJ] ∧ Blk W br 25 #[.int .i64 p.op, .int .i64 p.cl, .slice A1 p.hol.length k1, .int .i64 p.mach, .slice A2 p.setup.length k2, .slice (some ⟨b1, off1, none⟩) 1 k3] ∧ ShAt W W.heap.size ⟨oneS p st, A1, k1, A2, k2, some ⟨b1, off1, none⟩, k3⟩ ∧ Below w.heap.size w W) (fun y _ => p.hol.length - (intOf y).toNat)
            case atStart => exact ⟨0, rfl, Nat.zero_le _, hk, hr, hS1, hB⟩
            case round =>
              clear hk hB hS1 hr
              obtain ⟨W, rfl⟩ : ∃ W : World, W = wr := ⟨_, rfl⟩
              obtain ⟨i, rfl, hi, hk, hr, hS1, hB⟩ := hrel
              have c0 := hk.cell_ 0 rfl
              have c1 := hk.cell_ 1 rfl
              have c2 := hk.cell_ 2 rfl
              have c3 := hk.cell_ 3 rfl
              have c4 := hk.cell_ 4 rfl
              have c5 := hk.cell_ 5 rfl
              have o0 := hr.cell_ 0 rfl
              have o1 := hr.cell_ 1 rfl
              have o2 := hr.cell_ 2 rfl
              have o3 := hr.cell_ 3 rfl
              have o4 := hr.cell_ 4 rfl
              have o5 := hr.cell_ 5 rfl
              by_cases hlt3 : i < p.hol.length
              · obtain ⟨v, hv2⟩ : ∃ v, p.hol[i]? = some v := ⟨_, List.getElem?_eq_getElem hlt3⟩
                obtain ⟨g1, o1, hG1, hg1, d0⟩ := int_at (hS.on hB).hol hv2
                obtain ⟨g2, o2, hG2, hg2, d1⟩ := int_at hS1.hol hv2
                dsimp only at hG1 hG2
                subst hG1 hG2
                have hmi : (i : Int) < (p.hol.length : Int) := by omega
                clear hv2
                go_wp2_with fail
                refine wp_region_quiet (C := fun w' => ∃ u : Since W, w' = u.w) (by kernel_rfl) (by kernel_rfl) (Since.start W) ?_
                dsimp only
                have y_c0 := Since.cell c0
                have y_c1 := Since.cell c1
                have y_c2 := Since.cell c2
                have y_c3 := Since.cell c3
                have y_c4 := Since.cell c4
                have y_c5 := Since.cell c5
                have y_o0 := Since.cell o0
                have y_o1 := Since.cell o1
                have y_o2 := Since.cell o2
                have y_o3 := Since.cell o3
                have y_o4 := Since.cell o4
                have y_o5 := Since.cell o5
                have y_d0 := Since.cell d0
                have y_d1 := Since.cell d1
                clear c0 c1 c2 c3 c4 c5 o0 o1 o2 o3 o4 o5
                repeat (go_big_quiet_step ((fail)))
                refine wpQuiet_nil ?_
                rintro W ⟨⟨_, hb⟩, rfl⟩
                try dsimp only at hb ⊢
                replace d0 : W.cell? _ = _ := y_d0 ⟨W, hb⟩
                replace d1 : W.cell? _ = _ := y_d1 ⟨W, hb⟩
                clear y_c0 y_c1 y_c2 y_c3 y_c4 y_c5 y_o0 y_o1 y_o2 y_o3 y_o4 y_o5 y_d0 y_d1
                replace hk := hk.below hb hk.lt
                replace hr := hr.below hb hr.lt
                replace hS1 := hS1.on hb
                replace hB := hB.trans (hb.mono hB.size)
                clear hb
                have c0 := hk.cell_ 0 rfl
                have c1 := hk.cell_ 1 rfl
                have c2 := hk.cell_ 2 rfl
                have c3 := hk.cell_ 3 rfl
                have c4 := hk.cell_ 4 rfl
                have c5 := hk.cell_ 5 rfl
                have o0 := hr.cell_ 0 rfl
                have o1 := hr.cell_ 1 rfl
                have o2 := hr.cell_ 2 rfl
                have o3 := hr.cell_ 3 rfl
                have o4 := hr.cell_ 4 rfl
                have o5 := hr.cell_ 5 rfl
                go_wp2_with fail
                go_roundw
                case rel => exact ⟨i + 1, by go_num, by omega, hk, hr, hS1, hB⟩
                case measure => simp [intOf]; omega
              · obtain rfl : i = p.hol.length := by omega
                go_wp2_with fail
                refine (dispatch_any ⟨oneS p st, A1, k1, A2, k2, some ⟨b1, off1, none⟩, k3⟩ _ hS1 HV1.out).mono ?_
                rintro e W9 ⟨AP1, kp, rfl, hb, hP1⟩
                obtain ⟨W, rfl⟩ : ∃ W : World, W = W9 := ⟨_, rfl⟩
                clear c0 c1 c2 c3 c4 c5 o0 o1 o2 o3 o4 o5
                replace hk := hk.below hb hk.lt
                replace hr := hr.below hb hr.lt
                replace hS1 := hS1.on hb
                replace hB := hB.trans (hb.mono hB.size)
                clear hb
                have c0 := hk.cell_ 0 rfl
                have c1 := hk.cell_ 1 rfl
                have c2 := hk.cell_ 2 rfl
                have c3 := hk.cell_ 3 rfl
                have c4 := hk.cell_ 4 rfl
                have c5 := hk.cell_ 5 rfl
                have o0 := hr.cell_ 0 rfl
                have o1 := hr.cell_ 1 rfl
                have o2 := hr.cell_ 2 rfl
                have o3 := hr.cell_ 3 rfl
                have o4 := hr.cell_ 4 rfl
                have o5 := hr.cell_ 5 rfl
                go_wp2_with fail
                refine (apiEnd_any ⟨oneS p st, A1, k1, A2, k2, some ⟨b1, off1, none⟩, k3⟩ AP1 kp _ _ hS1 HV1.out hP1 HDF.out).mono ?_
                rintro e W ⟨rfl, hb⟩
                clear c0 c1 c2 c3 c4 c5 o0 o1 o2 o3 o4 o5
                replace hk := hk.below hb hk.lt
                replace hr := hr.below hb hr.lt
                replace hS1 := hS1.on hb
                replace hP1 := hP1.on hb
                replace hB := hB.trans (hb.mono hB.size)
                clear hb
                have c0 := hk.cell_ 0 rfl
                have c1 := hk.cell_ 1 rfl
                have c2 := hk.cell_ 2 rfl
                have c3 := hk.cell_ 3 rfl
                have c4 := hk.cell_ 4 rfl
                have c5 := hk.cell_ 5 rfl
                have o0 := hr.cell_ 0 rfl
                have o1 := hr.cell_ 1 rfl
                have o2 := hr.cell_ 2 rfl
                have o3 := hr.cell_ 3 rfl
                have o4 := hr.cell_ 4 rfl
                have o5 := hr.cell_ 5 rfl
                dsimp only
                rw [HDJ.out]
                go_wp2_with fail
                refine (apiChain_any ⟨p, aH, cH, aS, cS, some ⟨b, off, none⟩, cJ⟩ (j : Int) _ (hS.on hB) hvB).mono ?_
                rintro e W ⟨rfl, hb⟩
                clear c0 c1 c2 c3 c4 c5 o0 o1 o2 o3 o4 o5
                replace hk := hk.below hb hk.lt
                replace hr := hr.below hb hr.lt
                replace hS1 := hS1.on hb
                replace hP1 := hP1.on hb
                replace hB := hB.trans (hb.mono hB.size)
                clear hb
                have c0 := hk.cell_ 0 rfl
                have c1 := hk.cell_ 1 rfl
                have c2 := hk.cell_ 2 rfl
                have c3 := hk.cell_ 3 rfl
                have c4 := hk.cell_ 4 rfl
                have c5 := hk.cell_ 5 rfl
                have o0 := hr.cell_ 0 rfl
                have o1 := hr.cell_ 1 rfl
                have o2 := hr.cell_ 2 rfl
                have o3 := hr.cell_ 3 rfl
                have o4 := hr.cell_ 4 rfl
                have o5 := hr.cell_ 5 rfl
                dsimp only
                rw [HCV.out]
                generalize endV (oneS p st) (dispF (oneS p st)) = E at *
                generalize chainF p st = C at *
                cases al with
                | true =>
                  obtain rfl : E = C := HAL2.out rfl
                  go_wp2_with fail
                  refine (first_any _).mono ?_
                  rintro e W ⟨rfl, hb⟩
                  clear c0 c1 c2 c3 c4 c5 o0 o1 o2 o3 o4 o5
                  replace hk := hk.below hb hk.lt
                  replace hr := hr.below hb hr.lt
                  replace hS1 := hS1.on hb
                  replace hP1 := hP1.on hb
                  replace hB := hB.trans (hb.mono hB.size)
                  clear hb
                  have c0 := hk.cell_ 0 rfl
                  have c1 := hk.cell_ 1 rfl
                  have c2 := hk.cell_ 2 rfl
                  have c3 := hk.cell_ 3 rfl
                  have c4 := hk.cell_ 4 rfl
                  have c5 := hk.cell_ 5 rfl
                  have o0 := hr.cell_ 0 rfl
                  have o1 := hr.cell_ 1 rfl
                  have o2 := hr.cell_ 2 rfl
                  have o3 := hr.cell_ 3 rfl
                  have o4 := hr.cell_ 4 rfl
                  have o5 := hr.cell_ 5 rfl
                  go_wp2_with fail
                  go_ret
                  exact ⟨rfl, hB⟩
                | false =>
                  go_wp2_with fail
                  refine (first_any _).mono ?_
                  rintro e W ⟨rfl, hb⟩
                  clear c0 c1 c2 c3 c4 c5 o0 o1 o2 o3 o4 o5
                  replace hk := hk.below hb hk.lt
                  replace hr := hr.below hb hr.lt
                  replace hS1 := hS1.on hb
                  replace hP1 := hP1.on hb
                  replace hB := hB.trans (hb.mono hB.size)
                  clear hb
                  have c0 := hk.cell_ 0 rfl
                  have c1 := hk.cell_ 1 rfl
                  have c2 := hk.cell_ 2 rfl
                  have c3 := hk.cell_ 3 rfl
                  have c4 := hk.cell_ 4 rfl
                  have c5 := hk.cell_ 5 rfl
                  have o0 := hr.cell_ 0 rfl
                  have o1 := hr.cell_ 1 rfl
                  have o2 := hr.cell_ 2 rfl
                  have o3 := hr.cell_ 3 rfl
                  have o4 := hr.cell_ 4 rfl
                  have o5 := hr.cell_ 5 rfl
                  go_wp2_with fail
                  go_ret
                  exact ⟨rfl, hB⟩
end Go.Proofs.Ytcpnfcnobnjhdaa
