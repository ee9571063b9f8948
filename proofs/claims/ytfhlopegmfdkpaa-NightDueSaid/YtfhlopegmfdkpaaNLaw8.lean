/- NightDue: the walk. -/
import Derived.Test.YtfhlopegmfdkpaaNDue7
import Derived.Test.YtfhlopegmfdkpaaNApi
import Derived.Laws.StructEq
import Derived.ChangeKeysEq
namespace Go.Proofs.Ytfhlopegmfdkpaa
open Go Go.RowKit
theorem fields_job : (Try.prog.fieldsOf 39).toList.map (fun f => (f.name == "_", f.type, f.offset)) = [(false, 3, 0), (false, 3, 1), (false, 3, 2), (false, 3, 3), (false, 3, 4), (false, 3, 5), (false, 4, 6), (false, 4, 7)] := by kernel_rfl
theorem eql_job (j : Job) (w : World) : (binOp .eql 39 (.agg #[.int .i64 j.n, .int .i64 j.road, .int .i64 j.chain, .int .i64 j.first, .int .i64 j.last, .int .i64 j.crew, .bool j.dry, .bool j.warm]) (.agg #[.int .i64 j.n, .int .i64 j.road, .int .i64 j.chain, .int .i64 j.first, .int .i64 j.last, .int .i64 j.crew, .bool j.dry, .bool j.warm])).run Try.prog w = .ok (.bool true) w := by
  have hf := fields_job
  have he : (Op.equalIn 10000 39 (.agg #[.int .i64 j.n, .int .i64 j.road, .int .i64 j.chain, .int .i64 j.first, .int .i64 j.last, .int .i64 j.crew, .bool j.dry, .bool j.warm]) (.agg #[.int .i64 j.n, .int .i64 j.road, .int .i64 j.chain, .int .i64 j.first, .int .i64 j.last, .int .i64 j.crew, .bool j.dry, .bool j.warm])).run Try.prog w = .ok true w := by
    rw [run_equalIn_struct w 9999 _ _ _ (by kernel_rfl) (by kernel_rfl)]
    generalize (Try.prog.fieldsOf 39).toList = l at hf
    have hlen : l.length = 8 := by have := congrArg List.length hf; simpa using this
    match l, hlen, hf with
    | [f0, f1, f2, f3, f4, f5, f6, f7], _, hf =>
      simp only [List.map_cons, List.map_nil, List.cons.injEq, Prod.mk.injEq] at hf
      obtain ⟨⟨a0, b0, c0⟩, ⟨a1, b1, c1⟩, ⟨a2, b2, c2⟩, ⟨a3, b3, c3⟩, ⟨a4, b4, c4⟩, ⟨a5, b5, c5⟩, ⟨a6, b6, c6⟩, ⟨a7, b7, c7⟩, _⟩ := hf
      have n0 : f0.name ≠ "_" := by simpa using a0
      have n1 : f1.name ≠ "_" := by simpa using a1
      have n2 : f2.name ≠ "_" := by simpa using a2
      have n3 : f3.name ≠ "_" := by simpa using a3
      have n4 : f4.name ≠ "_" := by simpa using a4
      have n5 : f5.name ≠ "_" := by simpa using a5
      have n6 : f6.name ≠ "_" := by simpa using a6
      have n7 : f7.name ≠ "_" := by simpa using a7
      simp [Op.eqFields, n0, n1, n2, n3, n4, n5, n6, n7, b0, c0, b1, c1, b2, c2, b3, c3, b4, c4, b5, c5, b6, c6, b7, c7, part, isAgg, run_underlying Try.underlying3, run_underlying Try.underlying4, run_equalIn_int, run_equalIn_bool]
  simp [binOp, Op.equal, Op.maxDepth, he]
set_option maxRecDepth 100000 in
set_option maxHeartbeats 4000000 in
theorem due_walk (nu ro ch cr k0 k1 k2 k3 side : Int) (A : Option Addr) (c : Nat) (ms : List Ms) (least lead : Int) (w : World) (hS : Slc Ms.enc 2 w w.heap.size A ms) (hml : ms.length ≤ maxLen) :
    Calls Try.prog 10 #[.agg #[.int .i64 nu, .int .i64 ro, .int .i64 ch, .int .i64 cr, .int .i64 k0, .int .i64 k1, .int .i64 k2, .int .i64 k3, .int .i64 side, .slice A ms.length c, .int .i64 least, .int .i64 lead]] w fun e w' => e = .returned (.bool true) ∧ Below w.heap.size w w' := by
  unfold maxLen at hml
  have hk := Blk.new w 63 #[.int .i64 nu, .int .i64 ro, .int .i64 ch, .int .i64 cr, .int .i64 k0, .int .i64 k1, .int .i64 k2, .int .i64 k3, .int .i64 side, .slice A ms.length c, .int .i64 least, .int .i64 lead]
  have hB := (Below.refl w.heap.size w).alloc (Nat.le_refl _) (.cells #[.int .i64 nu, .int .i64 ro, .int .i64 ch, .int .i64 cr, .int .i64 k0, .int .i64 k1, .int .i64 k2, .int .i64 k3, .int .i64 side, .slice A ms.length c, .int .i64 least, .int .i64 lead] 63)
  by_cases hl : (60 : Int) < (ms.length : Int)
  · go_enter Try.func10, Try.ntmps10
    go_upto_region 1 with fail
    generalize w.alloc (.cells #[.int .i64 nu, .int .i64 ro, .int .i64 ch, .int .i64 cr, .int .i64 k0, .int .i64 k1, .int .i64 k2, .int .i64 k3, .int .i64 side, .slice A ms.length c, .int .i64 least, .int .i64 lead] 63) = W at *
    have c0 := hk.cell_ 0 rfl
    have c1 := hk.cell_ 1 rfl
    have c2 := hk.cell_ 2 rfl
    have c3 := hk.cell_ 3 rfl
    have c4 := hk.cell_ 4 rfl
    have c5 := hk.cell_ 5 rfl
    have c6 := hk.cell_ 6 rfl
    have c7 := hk.cell_ 7 rfl
    have c8 := hk.cell_ 8 rfl
    have c9 := hk.cell_ 9 rfl
    have c10 := hk.cell_ 10 rfl
    have c11 := hk.cell_ 11 rfl
    go_wp2_with fail
    refine (awake_any _).mono ?_
    rintro e W ⟨rfl, hb⟩
    clear c0 c1 c2 c3 c4 c5 c6 c7 c8 c9 c10 c11
    replace hk := hk.below hb hk.lt
    replace hB := hB.trans (hb.mono hB.size)
    clear hb
    have c0 := hk.cell_ 0 rfl
    have c1 := hk.cell_ 1 rfl
    have c2 := hk.cell_ 2 rfl
    have c3 := hk.cell_ 3 rfl
    have c4 := hk.cell_ 4 rfl
    have c5 := hk.cell_ 5 rfl
    have c6 := hk.cell_ 6 rfl
    have c7 := hk.cell_ 7 rfl
    have c8 := hk.cell_ 8 rfl
    have c9 := hk.cell_ 9 rfl
    have c10 := hk.cell_ 10 rfl
    have c11 := hk.cell_ 11 rfl
    go_wp2_with fail
    go_ret
    exact ⟨rfl, hB⟩
  go_enter Try.func10, Try.ntmps10
  go_upto_region 1 with fail
  generalize w.alloc (.cells #[.int .i64 nu, .int .i64 ro, .int .i64 ch, .int .i64 cr, .int .i64 k0, .int .i64 k1, .int .i64 k2, .int .i64 k3, .int .i64 side, .slice A ms.length c, .int .i64 least, .int .i64 lead] 63) = W at *
  have c0 := hk.cell_ 0 rfl
  have c1 := hk.cell_ 1 rfl
  have c2 := hk.cell_ 2 rfl
  have c3 := hk.cell_ 3 rfl
  have c4 := hk.cell_ 4 rfl
  have c5 := hk.cell_ 5 rfl
  have c6 := hk.cell_ 6 rfl
  have c7 := hk.cell_ 7 rfl
  have c8 := hk.cell_ 8 rfl
  have c9 := hk.cell_ 9 rfl
  have c10 := hk.cell_ 10 rfl
  have c11 := hk.cell_ 11 rfl
  go_wp2_with fail
  refine (dueJob_any nu ro ch cr k0 k1 k2 k3 side A c ms least lead _ ((hS.below hB).more hB.size) (by omega)).mono ?_
  rintro e W ⟨j, b, r, rfl, hJ, hb⟩
  clear c0 c1 c2 c3 c4 c5 c6 c7 c8 c9 c10 c11
  replace hk := hk.below hb hk.lt
  replace hB := hB.trans (hb.mono hB.size)
  clear hb
  have c0 := hk.cell_ 0 rfl
  have c1 := hk.cell_ 1 rfl
  have c2 := hk.cell_ 2 rfl
  have c3 := hk.cell_ 3 rfl
  have c4 := hk.cell_ 4 rfl
  have c5 := hk.cell_ 5 rfl
  have c6 := hk.cell_ 6 rfl
  have c7 := hk.cell_ 7 rfl
  have c8 := hk.cell_ 8 rfl
  have c9 := hk.cell_ 9 rfl
  have c10 := hk.cell_ 10 rfl
  have c11 := hk.cell_ 11 rfl
  have HJ := hide hJ
  clear hJ
  have q_c0 := (hk.alloc (.cells #[.int .i64 j.n, .int .i64 j.road, .int .i64 j.chain, .int .i64 j.first, .int .i64 j.last, .int .i64 j.crew, .bool j.dry, .bool j.warm] 39)).cell_ 0 rfl
  have q_c1 := (hk.alloc (.cells #[.int .i64 j.n, .int .i64 j.road, .int .i64 j.chain, .int .i64 j.first, .int .i64 j.last, .int .i64 j.crew, .bool j.dry, .bool j.warm] 39)).cell_ 1 rfl
  have q_c2 := (hk.alloc (.cells #[.int .i64 j.n, .int .i64 j.road, .int .i64 j.chain, .int .i64 j.first, .int .i64 j.last, .int .i64 j.crew, .bool j.dry, .bool j.warm] 39)).cell_ 2 rfl
  have q_c3 := (hk.alloc (.cells #[.int .i64 j.n, .int .i64 j.road, .int .i64 j.chain, .int .i64 j.first, .int .i64 j.last, .int .i64 j.crew, .bool j.dry, .bool j.warm] 39)).cell_ 3 rfl
  have q_c4 := (hk.alloc (.cells #[.int .i64 j.n, .int .i64 j.road, .int .i64 j.chain, .int .i64 j.first, .int .i64 j.last, .int .i64 j.crew, .bool j.dry, .bool j.warm] 39)).cell_ 4 rfl
  have q_c5 := (hk.alloc (.cells #[.int .i64 j.n, .int .i64 j.road, .int .i64 j.chain, .int .i64 j.first, .int .i64 j.last, .int .i64 j.crew, .bool j.dry, .bool j.warm] 39)).cell_ 5 rfl
  have q_c6 := (hk.alloc (.cells #[.int .i64 j.n, .int .i64 j.road, .int .i64 j.chain, .int .i64 j.first, .int .i64 j.last, .int .i64 j.crew, .bool j.dry, .bool j.warm] 39)).cell_ 6 rfl
  have q_c7 := (hk.alloc (.cells #[.int .i64 j.n, .int .i64 j.road, .int .i64 j.chain, .int .i64 j.first, .int .i64 j.last, .int .i64 j.crew, .bool j.dry, .bool j.warm] 39)).cell_ 7 rfl
  have q_c8 := (hk.alloc (.cells #[.int .i64 j.n, .int .i64 j.road, .int .i64 j.chain, .int .i64 j.first, .int .i64 j.last, .int .i64 j.crew, .bool j.dry, .bool j.warm] 39)).cell_ 8 rfl
  have q_c9 := (hk.alloc (.cells #[.int .i64 j.n, .int .i64 j.road, .int .i64 j.chain, .int .i64 j.first, .int .i64 j.last, .int .i64 j.crew, .bool j.dry, .bool j.warm] 39)).cell_ 9 rfl
  have q_c10 := (hk.alloc (.cells #[.int .i64 j.n, .int .i64 j.road, .int .i64 j.chain, .int .i64 j.first, .int .i64 j.last, .int .i64 j.crew, .bool j.dry, .bool j.warm] 39)).cell_ 10 rfl
  have q_c11 := (hk.alloc (.cells #[.int .i64 j.n, .int .i64 j.road, .int .i64 j.chain, .int .i64 j.first, .int .i64 j.last, .int .i64 j.crew, .bool j.dry, .bool j.warm] 39)).cell_ 11 rfl
  go_upto_region 4 with fail
  clear q_c0 q_c1 q_c2 q_c3 q_c4 q_c5 q_c6 q_c7 q_c8 q_c9 q_c10 q_c11
  clear c0 c1 c2 c3 c4 c5 c6 c7 c8 c9 c10 c11
  have hj := Blk.new W 39 #[.int .i64 j.n, .int .i64 j.road, .int .i64 j.chain, .int .i64 j.first, .int .i64 j.last, .int .i64 j.crew, .bool j.dry, .bool j.warm]
  replace hk := hk.alloc (.cells #[.int .i64 j.n, .int .i64 j.road, .int .i64 j.chain, .int .i64 j.first, .int .i64 j.last, .int .i64 j.crew, .bool j.dry, .bool j.warm] 39)
  have hsz_bj : (W.alloc (.cells #[.int .i64 j.n, .int .i64 j.road, .int .i64 j.chain, .int .i64 j.first, .int .i64 j.last, .int .i64 j.crew, .bool j.dry, .bool j.warm] 39)).heap.size = W.heap.size + 1 := by simp
  have bjge := hB.size
  replace hB := hB.alloc hB.size (.cells #[.int .i64 j.n, .int .i64 j.road, .int .i64 j.chain, .int .i64 j.first, .int .i64 j.last, .int .i64 j.crew, .bool j.dry, .bool j.warm] 39)
  generalize hbj : W.heap.size = bj at *
  generalize W.alloc (.cells #[.int .i64 j.n, .int .i64 j.road, .int .i64 j.chain, .int .i64 j.first, .int .i64 j.last, .int .i64 j.crew, .bool j.dry, .bool j.warm] 39) = W at *
  clear hbj
  have c0 := hk.cell_ 0 rfl
  have c1 := hk.cell_ 1 rfl
  have c2 := hk.cell_ 2 rfl
  have c3 := hk.cell_ 3 rfl
  have c4 := hk.cell_ 4 rfl
  have c5 := hk.cell_ 5 rfl
  have c6 := hk.cell_ 6 rfl
  have c7 := hk.cell_ 7 rfl
  have c8 := hk.cell_ 8 rfl
  have c9 := hk.cell_ 9 rfl
  have c10 := hk.cell_ 10 rfl
  have c11 := hk.cell_ 11 rfl
  have p0 := hj.cell_ 0 rfl
  have p1 := hj.cell_ 1 rfl
  have p2 := hj.cell_ 2 rfl
  have p3 := hj.cell_ 3 rfl
  have p4 := hj.cell_ 4 rfl
  have p5 := hj.cell_ 5 rfl
  have p6 := hj.cell_ 6 rfl
  have p7 := hj.cell_ 7 rfl
  go_wp2_with fail
  refine (refDueJob_any nu ro ch cr k0 k1 k2 k3 side A c ms least lead _ ((hS.below hB).more hB.size) (by omega)).mono ?_
  rintro e W ⟨j', b', r', rfl, hJ, hb⟩
  clear c0 c1 c2 c3 c4 c5 c6 c7 c8 c9 c10 c11 p0 p1 p2 p3 p4 p5 p6 p7
  replace hk := hk.below hb hk.lt
  replace hj := hj.below hb hj.lt
  replace hB := hB.trans (hb.mono hB.size)
  clear hb
  have c0 := hk.cell_ 0 rfl
  have c1 := hk.cell_ 1 rfl
  have c2 := hk.cell_ 2 rfl
  have c3 := hk.cell_ 3 rfl
  have c4 := hk.cell_ 4 rfl
  have c5 := hk.cell_ 5 rfl
  have c6 := hk.cell_ 6 rfl
  have c7 := hk.cell_ 7 rfl
  have c8 := hk.cell_ 8 rfl
  have c9 := hk.cell_ 9 rfl
  have c10 := hk.cell_ 10 rfl
  have c11 := hk.cell_ 11 rfl
  have p0 := hj.cell_ 0 rfl
  have p1 := hj.cell_ 1 rfl
  have p2 := hj.cell_ 2 rfl
  have p3 := hj.cell_ 3 rfl
  have p4 := hj.cell_ 4 rfl
  have p5 := hj.cell_ 5 rfl
  have p6 := hj.cell_ 6 rfl
  have p7 := hj.cell_ 7 rfl
  obtain ⟨rfl, rfl, rfl⟩ : j = j' ∧ b = b' ∧ r = r' := by have h := HJ.out.symm.trans hJ; simpa using h
  clear hJ HJ
  have q_c0 := (hk.alloc (.cells #[.int .i64 j.n, .int .i64 j.road, .int .i64 j.chain, .int .i64 j.first, .int .i64 j.last, .int .i64 j.crew, .bool j.dry, .bool j.warm] 39)).cell_ 0 rfl
  have q_c1 := (hk.alloc (.cells #[.int .i64 j.n, .int .i64 j.road, .int .i64 j.chain, .int .i64 j.first, .int .i64 j.last, .int .i64 j.crew, .bool j.dry, .bool j.warm] 39)).cell_ 1 rfl
  have q_c2 := (hk.alloc (.cells #[.int .i64 j.n, .int .i64 j.road, .int .i64 j.chain, .int .i64 j.first, .int .i64 j.last, .int .i64 j.crew, .bool j.dry, .bool j.warm] 39)).cell_ 2 rfl
  have q_c3 := (hk.alloc (.cells #[.int .i64 j.n, .int .i64 j.road, .int .i64 j.chain, .int .i64 j.first, .int .i64 j.last, .int .i64 j.crew, .bool j.dry, .bool j.warm] 39)).cell_ 3 rfl
  have q_c4 := (hk.alloc (.cells #[.int .i64 j.n, .int .i64 j.road, .int .i64 j.chain, .int .i64 j.first, .int .i64 j.last, .int .i64 j.crew, .bool j.dry, .bool j.warm] 39)).cell_ 4 rfl
  have q_c5 := (hk.alloc (.cells #[.int .i64 j.n, .int .i64 j.road, .int .i64 j.chain, .int .i64 j.first, .int .i64 j.last, .int .i64 j.crew, .bool j.dry, .bool j.warm] 39)).cell_ 5 rfl
  have q_c6 := (hk.alloc (.cells #[.int .i64 j.n, .int .i64 j.road, .int .i64 j.chain, .int .i64 j.first, .int .i64 j.last, .int .i64 j.crew, .bool j.dry, .bool j.warm] 39)).cell_ 6 rfl
  have q_c7 := (hk.alloc (.cells #[.int .i64 j.n, .int .i64 j.road, .int .i64 j.chain, .int .i64 j.first, .int .i64 j.last, .int .i64 j.crew, .bool j.dry, .bool j.warm] 39)).cell_ 7 rfl
  have q_c8 := (hk.alloc (.cells #[.int .i64 j.n, .int .i64 j.road, .int .i64 j.chain, .int .i64 j.first, .int .i64 j.last, .int .i64 j.crew, .bool j.dry, .bool j.warm] 39)).cell_ 8 rfl
  have q_c9 := (hk.alloc (.cells #[.int .i64 j.n, .int .i64 j.road, .int .i64 j.chain, .int .i64 j.first, .int .i64 j.last, .int .i64 j.crew, .bool j.dry, .bool j.warm] 39)).cell_ 9 rfl
  have q_c10 := (hk.alloc (.cells #[.int .i64 j.n, .int .i64 j.road, .int .i64 j.chain, .int .i64 j.first, .int .i64 j.last, .int .i64 j.crew, .bool j.dry, .bool j.warm] 39)).cell_ 10 rfl
  have q_c11 := (hk.alloc (.cells #[.int .i64 j.n, .int .i64 j.road, .int .i64 j.chain, .int .i64 j.first, .int .i64 j.last, .int .i64 j.crew, .bool j.dry, .bool j.warm] 39)).cell_ 11 rfl
  have q_p0 := (hj.alloc (.cells #[.int .i64 j.n, .int .i64 j.road, .int .i64 j.chain, .int .i64 j.first, .int .i64 j.last, .int .i64 j.crew, .bool j.dry, .bool j.warm] 39)).cell_ 0 rfl
  have q_p1 := (hj.alloc (.cells #[.int .i64 j.n, .int .i64 j.road, .int .i64 j.chain, .int .i64 j.first, .int .i64 j.last, .int .i64 j.crew, .bool j.dry, .bool j.warm] 39)).cell_ 1 rfl
  have q_p2 := (hj.alloc (.cells #[.int .i64 j.n, .int .i64 j.road, .int .i64 j.chain, .int .i64 j.first, .int .i64 j.last, .int .i64 j.crew, .bool j.dry, .bool j.warm] 39)).cell_ 2 rfl
  have q_p3 := (hj.alloc (.cells #[.int .i64 j.n, .int .i64 j.road, .int .i64 j.chain, .int .i64 j.first, .int .i64 j.last, .int .i64 j.crew, .bool j.dry, .bool j.warm] 39)).cell_ 3 rfl
  have q_p4 := (hj.alloc (.cells #[.int .i64 j.n, .int .i64 j.road, .int .i64 j.chain, .int .i64 j.first, .int .i64 j.last, .int .i64 j.crew, .bool j.dry, .bool j.warm] 39)).cell_ 4 rfl
  have q_p5 := (hj.alloc (.cells #[.int .i64 j.n, .int .i64 j.road, .int .i64 j.chain, .int .i64 j.first, .int .i64 j.last, .int .i64 j.crew, .bool j.dry, .bool j.warm] 39)).cell_ 5 rfl
  have q_p6 := (hj.alloc (.cells #[.int .i64 j.n, .int .i64 j.road, .int .i64 j.chain, .int .i64 j.first, .int .i64 j.last, .int .i64 j.crew, .bool j.dry, .bool j.warm] 39)).cell_ 6 rfl
  have q_p7 := (hj.alloc (.cells #[.int .i64 j.n, .int .i64 j.road, .int .i64 j.chain, .int .i64 j.first, .int .i64 j.last, .int .i64 j.crew, .bool j.dry, .bool j.warm] 39)).cell_ 7 rfl
  go_upto_region 5 with fail
  clear q_c0 q_c1 q_c2 q_c3 q_c4 q_c5 q_c6 q_c7 q_c8 q_c9 q_c10 q_c11 q_p0 q_p1 q_p2 q_p3 q_p4 q_p5 q_p6 q_p7
  clear c0 c1 c2 c3 c4 c5 c6 c7 c8 c9 c10 c11 p0 p1 p2 p3 p4 p5 p6 p7
  have hq := Blk.new W 39 #[.int .i64 j.n, .int .i64 j.road, .int .i64 j.chain, .int .i64 j.first, .int .i64 j.last, .int .i64 j.crew, .bool j.dry, .bool j.warm]
  replace hk := hk.alloc (.cells #[.int .i64 j.n, .int .i64 j.road, .int .i64 j.chain, .int .i64 j.first, .int .i64 j.last, .int .i64 j.crew, .bool j.dry, .bool j.warm] 39)
  replace hj := hj.alloc (.cells #[.int .i64 j.n, .int .i64 j.road, .int .i64 j.chain, .int .i64 j.first, .int .i64 j.last, .int .i64 j.crew, .bool j.dry, .bool j.warm] 39)
  have hsz_bq : (W.alloc (.cells #[.int .i64 j.n, .int .i64 j.road, .int .i64 j.chain, .int .i64 j.first, .int .i64 j.last, .int .i64 j.crew, .bool j.dry, .bool j.warm] 39)).heap.size = W.heap.size + 1 := by simp
  have bqge := hB.size
  replace hB := hB.alloc hB.size (.cells #[.int .i64 j.n, .int .i64 j.road, .int .i64 j.chain, .int .i64 j.first, .int .i64 j.last, .int .i64 j.crew, .bool j.dry, .bool j.warm] 39)
  generalize hbq : W.heap.size = bq at *
  generalize W.alloc (.cells #[.int .i64 j.n, .int .i64 j.road, .int .i64 j.chain, .int .i64 j.first, .int .i64 j.last, .int .i64 j.crew, .bool j.dry, .bool j.warm] 39) = W at *
  clear hbq
  have c0 := hk.cell_ 0 rfl
  have c1 := hk.cell_ 1 rfl
  have c2 := hk.cell_ 2 rfl
  have c3 := hk.cell_ 3 rfl
  have c4 := hk.cell_ 4 rfl
  have c5 := hk.cell_ 5 rfl
  have c6 := hk.cell_ 6 rfl
  have c7 := hk.cell_ 7 rfl
  have c8 := hk.cell_ 8 rfl
  have c9 := hk.cell_ 9 rfl
  have c10 := hk.cell_ 10 rfl
  have c11 := hk.cell_ 11 rfl
  have p0 := hj.cell_ 0 rfl
  have p1 := hj.cell_ 1 rfl
  have p2 := hj.cell_ 2 rfl
  have p3 := hj.cell_ 3 rfl
  have p4 := hj.cell_ 4 rfl
  have p5 := hj.cell_ 5 rfl
  have p6 := hj.cell_ 6 rfl
  have p7 := hj.cell_ 7 rfl
  have q0 := hq.cell_ 0 rfl
  have q1 := hq.cell_ 1 rfl
  have q2 := hq.cell_ 2 rfl
  have q3 := hq.cell_ 3 rfl
  have q4 := hq.cell_ 4 rfl
  have q5 := hq.cell_ 5 rfl
  have q6 := hq.cell_ 6 rfl
  have q7 := hq.cell_ 7 rfl
  have heq := eql_job j
  have hbb : (b == b) = true := by simp
  go_wp2_with fail
  refine (awake_any _).mono ?_
  rintro e W ⟨rfl, hb⟩
  clear c0 c1 c2 c3 c4 c5 c6 c7 c8 c9 c10 c11 p0 p1 p2 p3 p4 p5 p6 p7 q0 q1 q2 q3 q4 q5 q6 q7
  replace hk := hk.below hb hk.lt
  replace hj := hj.below hb hj.lt
  replace hq := hq.below hb hq.lt
  replace hB := hB.trans (hb.mono hB.size)
  clear hb
  have c0 := hk.cell_ 0 rfl
  have c1 := hk.cell_ 1 rfl
  have c2 := hk.cell_ 2 rfl
  have c3 := hk.cell_ 3 rfl
  have c4 := hk.cell_ 4 rfl
  have c5 := hk.cell_ 5 rfl
  have c6 := hk.cell_ 6 rfl
  have c7 := hk.cell_ 7 rfl
  have c8 := hk.cell_ 8 rfl
  have c9 := hk.cell_ 9 rfl
  have c10 := hk.cell_ 10 rfl
  have c11 := hk.cell_ 11 rfl
  have p0 := hj.cell_ 0 rfl
  have p1 := hj.cell_ 1 rfl
  have p2 := hj.cell_ 2 rfl
  have p3 := hj.cell_ 3 rfl
  have p4 := hj.cell_ 4 rfl
  have p5 := hj.cell_ 5 rfl
  have p6 := hj.cell_ 6 rfl
  have p7 := hj.cell_ 7 rfl
  have q0 := hq.cell_ 0 rfl
  have q1 := hq.cell_ 1 rfl
  have q2 := hq.cell_ 2 rfl
  have q3 := hq.cell_ 3 rfl
  have q4 := hq.cell_ 4 rfl
  have q5 := hq.cell_ 5 rfl
  have q6 := hq.cell_ 6 rfl
  have q7 := hq.cell_ 7 rfl
  go_wp2_with fail
  go_ret
  exact ⟨rfl, hB⟩
end Go.Proofs.Ytfhlopegmfdkpaa
