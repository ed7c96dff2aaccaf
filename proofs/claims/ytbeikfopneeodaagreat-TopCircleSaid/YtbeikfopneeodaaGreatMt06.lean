/- The rule of a kind: contract.ruleOf. -/
import Derived.Test.YtbeikfopneeodaaGreatMt05
import Derived.Deep.RegionHeld3
import Derived.RegionTactic
import Derived.Deep.CutBlock
import Derived.Deep.DeepCutAuto
import Derived.KernelRfl
namespace Go.Proofs.YtbeikfopneeodaaGreat
open Go.RowKit
set_option linter.unusedVariables false

def zz22 : Array Value := #[.int .i64 0, .int .i64 0, .int .i64 0, .int .i64 0, .int .i64 0, .int .i64 0, .int .i64 0, .int .i64 0, .int .i64 0, .int .i64 0, .int .i64 0, .int .i64 0, .int .i64 0, .int .i64 0, .int .i64 0, .int .i64 0, .int .i64 0, .int .i64 0, .int .i64 0, .int .i64 0, .int .i64 0, .int .i64 1073741824]

set_option maxRecDepth 100000 in
theorem rule_info : (Tryz.prog.info? 207).map (·.size) = some 22 := by kernel_rfl
set_option maxRecDepth 100000 in
theorem rule_built : (Tryz.prog.built 207 [(10, .agg #[.int .i64 0, .int .i64 1073741824])]) = some zz22 := by kernel_rfl

def spanCells (k : Int) : Array Value := #[.int .i64 (Ty.lo k 0), .int .i64 (Ty.hi k 0), .int .i64 (Ty.lo k 1), .int .i64 (Ty.hi k 1), .int .i64 (Ty.lo k 2), .int .i64 (Ty.hi k 2), .int .i64 (Ty.lo k 3), .int .i64 (Ty.hi k 3), .int .i64 (Ty.lo k 4), .int .i64 (Ty.hi k 4), .int .i64 (Ty.lo k 5), .int .i64 (Ty.hi k 5), .int .i64 (Ty.lo k 6), .int .i64 (Ty.hi k 6), .int .i64 (Ty.lo k 7), .int .i64 (Ty.hi k 7), .int .i64 (Ty.lo k 8), .int .i64 (Ty.hi k 8), .int .i64 (Ty.lo k 9), .int .i64 (Ty.hi k 9), .int .i64 (Ty.lo k 10), .int .i64 (Ty.hi k 10)]

/-- what ruleOf returns -/
def RulePost (k : Int) (w : World) (e : Ending) (w' : World) : Prop := e = .returned (.agg (spanCells k)) ∧ Below w.heap.size w w'

set_option maxRecDepth 100000 in
set_option maxHeartbeats 2000000 in
theorem rule1 (w : World) : Calls Tryz.prog 123 #[.int .i64 1] w (RulePost 1 w) := by
  have HI := Lib.hid rule_info
  go_enter Tryz.func123, Tryz.ntmps123
  go_upto_region 2 with (fail)
  go_upto_region 5 with (first
    | (refine wpList_build_is rfl 207 [(10, .tmp 8)] rfl [(10, .agg #[.int .i64 0, .int .i64 1073741824])] rfl zz22 rule_built ?_)
    | (refine wpList_store_has rfl 207 (.tmp 5) (.tmp 9) rfl (w.heap.size + 1 + 1 + 1) rfl zz22 rfl _ _ (Has.new' _ _ _ _ (by simp)) HI.out rfl rfl ?_; intro w2 hh hl)
    | fail)
  have HZ : Hid (Has w2 w.heap.size #[.int .i64 0, .int .i64 0, .int .i64 0, .int .i64 0, .int .i64 0, .int .i64 0, .int .i64 0, .int .i64 0, .int .i64 0, .int .i64 0, .int .i64 0, .int .i64 0, .int .i64 0, .int .i64 0, .int .i64 0, .int .i64 0, .int .i64 0, .int .i64 0, .int .i64 0, .int .i64 0, .int .i64 0, .int .i64 0] 207) := Lib.hid (Has.leaves ((((Has.new w _ _).alloc _).alloc _).alloc _) hl (by omega))
  have HM : Hid (Has w2 (w.heap.size + 1) #[.int .i64 0, .int .i64 1073741824] 205) := Lib.hid (Has.leaves (((Has.new' _ _ _ _ (by simp)).alloc _).alloc _) hl (by omega))
  have HP : Hid (Has w2 (w.heap.size + 1 + 1) #[.int .i64 1, .int .i64 1073741824] 205) := Lib.hid (Has.leaves ((Has.new' _ _ _ _ (by simp)).alloc _) hl (by omega))
  have HR := Lib.hid hh
  have HB : Hid (Below w.heap.size w w2) := Lib.hid (Leaves.below (((((Leaves.refl _ w).alloc _).alloc _).alloc _).alloc _ |>.trans' (hl) (fun i h1 h2 => h2)) (fun k hk => by omega) (Nat.le_refl _))
  clear hh hl
  have c2 : w2.cell? ⟨w.heap.size + 1 + 1 + 1, 2, none⟩ = some (.int .i64 0) := HR.out.cell 2
  have c3 : w2.cell? ⟨w.heap.size + 1 + 1 + 1, 3, none⟩ = some (.int .i64 0) := HR.out.cell 3
  have c10 : w2.cell? ⟨w.heap.size + 1 + 1 + 1, 10, none⟩ = some (.int .i64 0) := HR.out.cell 10
  have c11 : w2.cell? ⟨w.heap.size + 1 + 1 + 1, 11, none⟩ = some (.int .i64 0) := HR.out.cell 11
  have f2 : w2.frozen? ⟨w.heap.size + 1 + 1 + 1, 2, none⟩ = false := HR.out.free 2
  have f3 : w2.frozen? ⟨w.heap.size + 1 + 1 + 1, 3, none⟩ = false := HR.out.free 3
  have f10 : w2.frozen? ⟨w.heap.size + 1 + 1 + 1, 10, none⟩ = false := HR.out.free 10
  have f11 : w2.frozen? ⟨w.heap.size + 1 + 1 + 1, 11, none⟩ = false := HR.out.free 11
  have m0 : w2.cell? ⟨w.heap.size + 1, 0, none⟩ = some (.int .i64 0) := HM.out.cell 0
  have m1 : w2.cell? ⟨w.heap.size + 1, 1, none⟩ = some (.int .i64 1073741824) := HM.out.cell 1
  have p0 : w2.cell? ⟨w.heap.size + 1 + 1, 0, none⟩ = some (.int .i64 1) := HP.out.cell 0
  have p1 : w2.cell? ⟨w.heap.size + 1 + 1, 1, none⟩ = some (.int .i64 1073741824) := HP.out.cell 1
  have n1 : ¬ (w.heap.size + 1 + 1 = w.heap.size) := by omega
  have n2 : ¬ (w.heap.size = w.heap.size + 1 + 1) := by omega
  have n3 : ¬ (w.heap.size + 1 + 1 + 1 = w.heap.size + 1) := by omega
  have n4 : ¬ (w.heap.size + 1 = w.heap.size + 1 + 1 + 1) := by omega
  go_region_held3 (fun w' => w'.cell? ⟨w.heap.size + 1, 0, none⟩ = some (.int .i64 0) ∧ w'.cell? ⟨w.heap.size + 1, 1, none⟩ = some (.int .i64 1073741824) ∧ w'.cell? ⟨w.heap.size + 1 + 1, 0, none⟩ = some (.int .i64 1) ∧ w'.cell? ⟨w.heap.size + 1 + 1, 1, none⟩ = some (.int .i64 1073741824)) (go_keep) (fail)
  go_upto_region 18 with (fail)
  go_wp2_with (first
    | (refine wpList_load_has rfl 207 (.tmp 5) rfl (w.heap.size + 1 + 1 + 1) rfl _ _ _ ((((HR.out.put 2 (.int .i64 1)).put 3 (.int .i64 1000000)).put 10 (.int .i64 0)).put 11 (.int .i64 1073741824)).drew Tryz.underlying207 rfl HI.out ?_)
    | (refine wpList_store_has rfl 207 (.tmp 2) (.tmp 59) rfl w.heap.size rfl _ rfl _ _ ((((HZ.out.far (by simp; omega) _).far (by simp; omega) _).far (by simp; omega) _).far (by simp; omega) _).drew HI.out rfl rfl ?_; intro w3 hh hl)
    | fail)
  refine bodyPost_ret (v := .agg (spanCells 1)) (results_cell_row Tryz.results123 _ _ _ _ _ (0, 0) _ rfl hh Tryz.underlying207 rfl HI.out) rfl ⟨rfl, ?_⟩
  exact Below.trans (by (repeat' (first | (with_reducible exact HB.out) | (with_reducible refine Below.setCell ?_ ?_ _) | (with_reducible refine Below.drew ?_))) <;> (simp; omega)) (hl.below (B := w.heap.size) (fun k hk => by omega) (by have := HB.out.size; simp; omega))

set_option maxRecDepth 100000 in
set_option maxHeartbeats 2000000 in
theorem rule2 (w : World) : Calls Tryz.prog 123 #[.int .i64 2] w (RulePost 2 w) := by
  have HI := Lib.hid rule_info
  go_enter Tryz.func123, Tryz.ntmps123
  go_upto_region 2 with (fail)
  go_upto_region 7 with (first
    | (refine wpList_build_is rfl 207 [(10, .tmp 8)] rfl [(10, .agg #[.int .i64 0, .int .i64 1073741824])] rfl zz22 rule_built ?_)
    | (refine wpList_store_has rfl 207 (.tmp 5) (.tmp 9) rfl (w.heap.size + 1 + 1 + 1) rfl zz22 rfl _ _ (Has.new' _ _ _ _ (by simp)) HI.out rfl rfl ?_; intro w2 hh hl)
    | fail)
  have HZ : Hid (Has w2 w.heap.size #[.int .i64 0, .int .i64 0, .int .i64 0, .int .i64 0, .int .i64 0, .int .i64 0, .int .i64 0, .int .i64 0, .int .i64 0, .int .i64 0, .int .i64 0, .int .i64 0, .int .i64 0, .int .i64 0, .int .i64 0, .int .i64 0, .int .i64 0, .int .i64 0, .int .i64 0, .int .i64 0, .int .i64 0, .int .i64 0] 207) := Lib.hid (Has.leaves ((((Has.new w _ _).alloc _).alloc _).alloc _) hl (by omega))
  have HM : Hid (Has w2 (w.heap.size + 1) #[.int .i64 0, .int .i64 1073741824] 205) := Lib.hid (Has.leaves (((Has.new' _ _ _ _ (by simp)).alloc _).alloc _) hl (by omega))
  have HP : Hid (Has w2 (w.heap.size + 1 + 1) #[.int .i64 1, .int .i64 1073741824] 205) := Lib.hid (Has.leaves ((Has.new' _ _ _ _ (by simp)).alloc _) hl (by omega))
  have HR := Lib.hid hh
  have HB : Hid (Below w.heap.size w w2) := Lib.hid (Leaves.below (((((Leaves.refl _ w).alloc _).alloc _).alloc _).alloc _ |>.trans' (hl) (fun i h1 h2 => h2)) (fun k hk => by omega) (Nat.le_refl _))
  clear hh hl
  have c4 : w2.cell? ⟨w.heap.size + 1 + 1 + 1, 4, none⟩ = some (.int .i64 0) := HR.out.cell 4
  have c5 : w2.cell? ⟨w.heap.size + 1 + 1 + 1, 5, none⟩ = some (.int .i64 0) := HR.out.cell 5
  have c6 : w2.cell? ⟨w.heap.size + 1 + 1 + 1, 6, none⟩ = some (.int .i64 0) := HR.out.cell 6
  have c7 : w2.cell? ⟨w.heap.size + 1 + 1 + 1, 7, none⟩ = some (.int .i64 0) := HR.out.cell 7
  have f4 : w2.frozen? ⟨w.heap.size + 1 + 1 + 1, 4, none⟩ = false := HR.out.free 4
  have f5 : w2.frozen? ⟨w.heap.size + 1 + 1 + 1, 5, none⟩ = false := HR.out.free 5
  have f6 : w2.frozen? ⟨w.heap.size + 1 + 1 + 1, 6, none⟩ = false := HR.out.free 6
  have f7 : w2.frozen? ⟨w.heap.size + 1 + 1 + 1, 7, none⟩ = false := HR.out.free 7
  have m0 : w2.cell? ⟨w.heap.size + 1, 0, none⟩ = some (.int .i64 0) := HM.out.cell 0
  have m1 : w2.cell? ⟨w.heap.size + 1, 1, none⟩ = some (.int .i64 1073741824) := HM.out.cell 1
  have p0 : w2.cell? ⟨w.heap.size + 1 + 1, 0, none⟩ = some (.int .i64 1) := HP.out.cell 0
  have p1 : w2.cell? ⟨w.heap.size + 1 + 1, 1, none⟩ = some (.int .i64 1073741824) := HP.out.cell 1
  have n1 : ¬ (w.heap.size + 1 + 1 = w.heap.size) := by omega
  have n2 : ¬ (w.heap.size = w.heap.size + 1 + 1) := by omega
  have n3 : ¬ (w.heap.size + 1 + 1 + 1 = w.heap.size + 1) := by omega
  have n4 : ¬ (w.heap.size + 1 = w.heap.size + 1 + 1 + 1) := by omega
  go_upto_region 18 with (fail)
  go_wp2_with (first
    | (refine wpList_load_has rfl 207 (.tmp 5) rfl (w.heap.size + 1 + 1 + 1) rfl _ _ _ ((((HR.out.put 4 (.int .i64 1)).put 5 (.int .i64 1073741824)).put 6 (.int .i64 1)).put 7 (.int .i64 100)) Tryz.underlying207 rfl HI.out ?_)
    | (refine wpList_store_has rfl 207 (.tmp 2) (.tmp 59) rfl w.heap.size rfl _ rfl _ _ ((((HZ.out.far (by simp; omega) _).far (by simp; omega) _).far (by simp; omega) _).far (by simp; omega) _) HI.out rfl rfl ?_; intro w3 hh hl)
    | fail)
  refine bodyPost_ret (v := .agg (spanCells 2)) (results_cell_row Tryz.results123 _ _ _ _ _ (0, 0) _ rfl hh Tryz.underlying207 rfl HI.out) rfl ⟨rfl, ?_⟩
  exact Below.trans (by (repeat' (first | (with_reducible exact HB.out) | (with_reducible refine Below.setCell ?_ ?_ _) | (with_reducible refine Below.drew ?_))) <;> (simp; omega)) (hl.below (B := w.heap.size) (fun k hk => by omega) (by have := HB.out.size; simp; omega))

set_option maxRecDepth 100000 in
set_option maxHeartbeats 2000000 in
theorem rule3 (w : World) : Calls Tryz.prog 123 #[.int .i64 3] w (RulePost 3 w) := by
  have HI := Lib.hid rule_info
  go_enter Tryz.func123, Tryz.ntmps123
  go_upto_region 2 with (fail)
  go_upto_region 9 with (first
    | (refine wpList_build_is rfl 207 [(10, .tmp 8)] rfl [(10, .agg #[.int .i64 0, .int .i64 1073741824])] rfl zz22 rule_built ?_)
    | (refine wpList_store_has rfl 207 (.tmp 5) (.tmp 9) rfl (w.heap.size + 1 + 1 + 1) rfl zz22 rfl _ _ (Has.new' _ _ _ _ (by simp)) HI.out rfl rfl ?_; intro w2 hh hl)
    | fail)
  have HZ : Hid (Has w2 w.heap.size #[.int .i64 0, .int .i64 0, .int .i64 0, .int .i64 0, .int .i64 0, .int .i64 0, .int .i64 0, .int .i64 0, .int .i64 0, .int .i64 0, .int .i64 0, .int .i64 0, .int .i64 0, .int .i64 0, .int .i64 0, .int .i64 0, .int .i64 0, .int .i64 0, .int .i64 0, .int .i64 0, .int .i64 0, .int .i64 0] 207) := Lib.hid (Has.leaves ((((Has.new w _ _).alloc _).alloc _).alloc _) hl (by omega))
  have HM : Hid (Has w2 (w.heap.size + 1) #[.int .i64 0, .int .i64 1073741824] 205) := Lib.hid (Has.leaves (((Has.new' _ _ _ _ (by simp)).alloc _).alloc _) hl (by omega))
  have HP : Hid (Has w2 (w.heap.size + 1 + 1) #[.int .i64 1, .int .i64 1073741824] 205) := Lib.hid (Has.leaves ((Has.new' _ _ _ _ (by simp)).alloc _) hl (by omega))
  have HR := Lib.hid hh
  have HB : Hid (Below w.heap.size w w2) := Lib.hid (Leaves.below (((((Leaves.refl _ w).alloc _).alloc _).alloc _).alloc _ |>.trans' (hl) (fun i h1 h2 => h2)) (fun k hk => by omega) (Nat.le_refl _))
  clear hh hl
  have c0 : w2.cell? ⟨w.heap.size + 1 + 1 + 1, 0, none⟩ = some (.int .i64 0) := HR.out.cell 0
  have c1 : w2.cell? ⟨w.heap.size + 1 + 1 + 1, 1, none⟩ = some (.int .i64 0) := HR.out.cell 1
  have c2 : w2.cell? ⟨w.heap.size + 1 + 1 + 1, 2, none⟩ = some (.int .i64 0) := HR.out.cell 2
  have c3 : w2.cell? ⟨w.heap.size + 1 + 1 + 1, 3, none⟩ = some (.int .i64 0) := HR.out.cell 3
  have f0 : w2.frozen? ⟨w.heap.size + 1 + 1 + 1, 0, none⟩ = false := HR.out.free 0
  have f1 : w2.frozen? ⟨w.heap.size + 1 + 1 + 1, 1, none⟩ = false := HR.out.free 1
  have f2 : w2.frozen? ⟨w.heap.size + 1 + 1 + 1, 2, none⟩ = false := HR.out.free 2
  have f3 : w2.frozen? ⟨w.heap.size + 1 + 1 + 1, 3, none⟩ = false := HR.out.free 3
  have m0 : w2.cell? ⟨w.heap.size + 1, 0, none⟩ = some (.int .i64 0) := HM.out.cell 0
  have m1 : w2.cell? ⟨w.heap.size + 1, 1, none⟩ = some (.int .i64 1073741824) := HM.out.cell 1
  have p0 : w2.cell? ⟨w.heap.size + 1 + 1, 0, none⟩ = some (.int .i64 1) := HP.out.cell 0
  have p1 : w2.cell? ⟨w.heap.size + 1 + 1, 1, none⟩ = some (.int .i64 1073741824) := HP.out.cell 1
  have n1 : ¬ (w.heap.size + 1 + 1 = w.heap.size) := by omega
  have n2 : ¬ (w.heap.size = w.heap.size + 1 + 1) := by omega
  have n3 : ¬ (w.heap.size + 1 + 1 + 1 = w.heap.size + 1) := by omega
  have n4 : ¬ (w.heap.size + 1 = w.heap.size + 1 + 1 + 1) := by omega
  go_upto_region 18 with (fail)
  go_wp2_with (first
    | (refine wpList_load_has rfl 207 (.tmp 5) rfl (w.heap.size + 1 + 1 + 1) rfl _ _ _ ((((HR.out.put 0 (.int .i64 1)).put 1 (.int .i64 1048576)).put 2 (.int .i64 1)).put 3 (.int .i64 1000000)) Tryz.underlying207 rfl HI.out ?_)
    | (refine wpList_store_has rfl 207 (.tmp 2) (.tmp 59) rfl w.heap.size rfl _ rfl _ _ ((((HZ.out.far (by simp; omega) _).far (by simp; omega) _).far (by simp; omega) _).far (by simp; omega) _) HI.out rfl rfl ?_; intro w3 hh hl)
    | fail)
  refine bodyPost_ret (v := .agg (spanCells 3)) (results_cell_row Tryz.results123 _ _ _ _ _ (0, 0) _ rfl hh Tryz.underlying207 rfl HI.out) rfl ⟨rfl, ?_⟩
  exact Below.trans (by (repeat' (first | (with_reducible exact HB.out) | (with_reducible refine Below.setCell ?_ ?_ _) | (with_reducible refine Below.drew ?_))) <;> (simp; omega)) (hl.below (B := w.heap.size) (fun k hk => by omega) (by have := HB.out.size; simp; omega))

set_option maxRecDepth 100000 in
set_option maxHeartbeats 2000000 in
theorem rule4 (w : World) : Calls Tryz.prog 123 #[.int .i64 4] w (RulePost 4 w) := by
  have HI := Lib.hid rule_info
  go_enter Tryz.func123, Tryz.ntmps123
  go_upto_region 2 with (fail)
  go_upto_region 11 with (first
    | (refine wpList_build_is rfl 207 [(10, .tmp 8)] rfl [(10, .agg #[.int .i64 0, .int .i64 1073741824])] rfl zz22 rule_built ?_)
    | (refine wpList_store_has rfl 207 (.tmp 5) (.tmp 9) rfl (w.heap.size + 1 + 1 + 1) rfl zz22 rfl _ _ (Has.new' _ _ _ _ (by simp)) HI.out rfl rfl ?_; intro w2 hh hl)
    | fail)
  have HZ : Hid (Has w2 w.heap.size #[.int .i64 0, .int .i64 0, .int .i64 0, .int .i64 0, .int .i64 0, .int .i64 0, .int .i64 0, .int .i64 0, .int .i64 0, .int .i64 0, .int .i64 0, .int .i64 0, .int .i64 0, .int .i64 0, .int .i64 0, .int .i64 0, .int .i64 0, .int .i64 0, .int .i64 0, .int .i64 0, .int .i64 0, .int .i64 0] 207) := Lib.hid (Has.leaves ((((Has.new w _ _).alloc _).alloc _).alloc _) hl (by omega))
  have HM : Hid (Has w2 (w.heap.size + 1) #[.int .i64 0, .int .i64 1073741824] 205) := Lib.hid (Has.leaves (((Has.new' _ _ _ _ (by simp)).alloc _).alloc _) hl (by omega))
  have HP : Hid (Has w2 (w.heap.size + 1 + 1) #[.int .i64 1, .int .i64 1073741824] 205) := Lib.hid (Has.leaves ((Has.new' _ _ _ _ (by simp)).alloc _) hl (by omega))
  have HR := Lib.hid hh
  have HB : Hid (Below w.heap.size w w2) := Lib.hid (Leaves.below (((((Leaves.refl _ w).alloc _).alloc _).alloc _).alloc _ |>.trans' (hl) (fun i h1 h2 => h2)) (fun k hk => by omega) (Nat.le_refl _))
  clear hh hl
  have c8 : w2.cell? ⟨w.heap.size + 1 + 1 + 1, 8, none⟩ = some (.int .i64 0) := HR.out.cell 8
  have c9 : w2.cell? ⟨w.heap.size + 1 + 1 + 1, 9, none⟩ = some (.int .i64 0) := HR.out.cell 9
  have c10 : w2.cell? ⟨w.heap.size + 1 + 1 + 1, 10, none⟩ = some (.int .i64 0) := HR.out.cell 10
  have c11 : w2.cell? ⟨w.heap.size + 1 + 1 + 1, 11, none⟩ = some (.int .i64 0) := HR.out.cell 11
  have c14 : w2.cell? ⟨w.heap.size + 1 + 1 + 1, 14, none⟩ = some (.int .i64 0) := HR.out.cell 14
  have c15 : w2.cell? ⟨w.heap.size + 1 + 1 + 1, 15, none⟩ = some (.int .i64 0) := HR.out.cell 15
  have c16 : w2.cell? ⟨w.heap.size + 1 + 1 + 1, 16, none⟩ = some (.int .i64 0) := HR.out.cell 16
  have c17 : w2.cell? ⟨w.heap.size + 1 + 1 + 1, 17, none⟩ = some (.int .i64 0) := HR.out.cell 17
  have c18 : w2.cell? ⟨w.heap.size + 1 + 1 + 1, 18, none⟩ = some (.int .i64 0) := HR.out.cell 18
  have c19 : w2.cell? ⟨w.heap.size + 1 + 1 + 1, 19, none⟩ = some (.int .i64 0) := HR.out.cell 19
  have f8 : w2.frozen? ⟨w.heap.size + 1 + 1 + 1, 8, none⟩ = false := HR.out.free 8
  have f9 : w2.frozen? ⟨w.heap.size + 1 + 1 + 1, 9, none⟩ = false := HR.out.free 9
  have f10 : w2.frozen? ⟨w.heap.size + 1 + 1 + 1, 10, none⟩ = false := HR.out.free 10
  have f11 : w2.frozen? ⟨w.heap.size + 1 + 1 + 1, 11, none⟩ = false := HR.out.free 11
  have f14 : w2.frozen? ⟨w.heap.size + 1 + 1 + 1, 14, none⟩ = false := HR.out.free 14
  have f15 : w2.frozen? ⟨w.heap.size + 1 + 1 + 1, 15, none⟩ = false := HR.out.free 15
  have f16 : w2.frozen? ⟨w.heap.size + 1 + 1 + 1, 16, none⟩ = false := HR.out.free 16
  have f17 : w2.frozen? ⟨w.heap.size + 1 + 1 + 1, 17, none⟩ = false := HR.out.free 17
  have f18 : w2.frozen? ⟨w.heap.size + 1 + 1 + 1, 18, none⟩ = false := HR.out.free 18
  have f19 : w2.frozen? ⟨w.heap.size + 1 + 1 + 1, 19, none⟩ = false := HR.out.free 19
  have m0 : w2.cell? ⟨w.heap.size + 1, 0, none⟩ = some (.int .i64 0) := HM.out.cell 0
  have m1 : w2.cell? ⟨w.heap.size + 1, 1, none⟩ = some (.int .i64 1073741824) := HM.out.cell 1
  have p0 : w2.cell? ⟨w.heap.size + 1 + 1, 0, none⟩ = some (.int .i64 1) := HP.out.cell 0
  have p1 : w2.cell? ⟨w.heap.size + 1 + 1, 1, none⟩ = some (.int .i64 1073741824) := HP.out.cell 1
  have n1 : ¬ (w.heap.size + 1 + 1 = w.heap.size) := by omega
  have n2 : ¬ (w.heap.size = w.heap.size + 1 + 1) := by omega
  have n3 : ¬ (w.heap.size + 1 + 1 + 1 = w.heap.size + 1) := by omega
  have n4 : ¬ (w.heap.size + 1 = w.heap.size + 1 + 1 + 1) := by omega
  go_region_held3 (fun w' => w'.cell? ⟨w.heap.size + 1, 0, none⟩ = some (.int .i64 0) ∧ w'.cell? ⟨w.heap.size + 1, 1, none⟩ = some (.int .i64 1073741824) ∧ w'.cell? ⟨w.heap.size + 1 + 1, 0, none⟩ = some (.int .i64 1) ∧ w'.cell? ⟨w.heap.size + 1 + 1, 1, none⟩ = some (.int .i64 1073741824)) (go_keep) (fail)
  go_upto_region 18 with (fail)
  go_wp2_with (first
    | (refine wpList_load_has rfl 207 (.tmp 5) rfl (w.heap.size + 1 + 1 + 1) rfl _ _ _ ((((((((((HR.out.put 8 (.int .i64 0)).put 9 (.int .i64 1073741824)).put 10 (.int .i64 1)).put 11 (.int .i64 1073741824)).put 14 (.int .i64 0)).put 15 (.int .i64 1073741824)).put 16 (.int .i64 0)).put 17 (.int .i64 1073741824)).put 18 (.int .i64 0)).put 19 (.int .i64 1000000000)).drew Tryz.underlying207 rfl HI.out ?_)
    | (refine wpList_store_has rfl 207 (.tmp 2) (.tmp 59) rfl w.heap.size rfl _ rfl _ _ ((((((((((HZ.out.far (by simp; omega) _).far (by simp; omega) _).far (by simp; omega) _).far (by simp; omega) _).far (by simp; omega) _).far (by simp; omega) _).far (by simp; omega) _).far (by simp; omega) _).far (by simp; omega) _).far (by simp; omega) _).drew HI.out rfl rfl ?_; intro w3 hh hl)
    | fail)
  refine bodyPost_ret (v := .agg (spanCells 4)) (results_cell_row Tryz.results123 _ _ _ _ _ (0, 0) _ rfl hh Tryz.underlying207 rfl HI.out) rfl ⟨rfl, ?_⟩
  exact Below.trans (by (repeat' (first | (with_reducible exact HB.out) | (with_reducible refine Below.setCell ?_ ?_ _) | (with_reducible refine Below.drew ?_))) <;> (simp; omega)) (hl.below (B := w.heap.size) (fun k hk => by omega) (by have := HB.out.size; simp; omega))

set_option maxRecDepth 100000 in
set_option maxHeartbeats 2000000 in
theorem rule5 (w : World) : Calls Tryz.prog 123 #[.int .i64 5] w (RulePost 5 w) := by
  have HI := Lib.hid rule_info
  go_enter Tryz.func123, Tryz.ntmps123
  go_upto_region 2 with (fail)
  go_upto_region 14 with (first
    | (refine wpList_build_is rfl 207 [(10, .tmp 8)] rfl [(10, .agg #[.int .i64 0, .int .i64 1073741824])] rfl zz22 rule_built ?_)
    | (refine wpList_store_has rfl 207 (.tmp 5) (.tmp 9) rfl (w.heap.size + 1 + 1 + 1) rfl zz22 rfl _ _ (Has.new' _ _ _ _ (by simp)) HI.out rfl rfl ?_; intro w2 hh hl)
    | fail)
  have HZ : Hid (Has w2 w.heap.size #[.int .i64 0, .int .i64 0, .int .i64 0, .int .i64 0, .int .i64 0, .int .i64 0, .int .i64 0, .int .i64 0, .int .i64 0, .int .i64 0, .int .i64 0, .int .i64 0, .int .i64 0, .int .i64 0, .int .i64 0, .int .i64 0, .int .i64 0, .int .i64 0, .int .i64 0, .int .i64 0, .int .i64 0, .int .i64 0] 207) := Lib.hid (Has.leaves ((((Has.new w _ _).alloc _).alloc _).alloc _) hl (by omega))
  have HM : Hid (Has w2 (w.heap.size + 1) #[.int .i64 0, .int .i64 1073741824] 205) := Lib.hid (Has.leaves (((Has.new' _ _ _ _ (by simp)).alloc _).alloc _) hl (by omega))
  have HP : Hid (Has w2 (w.heap.size + 1 + 1) #[.int .i64 1, .int .i64 1073741824] 205) := Lib.hid (Has.leaves ((Has.new' _ _ _ _ (by simp)).alloc _) hl (by omega))
  have HR := Lib.hid hh
  have HB : Hid (Below w.heap.size w w2) := Lib.hid (Leaves.below (((((Leaves.refl _ w).alloc _).alloc _).alloc _).alloc _ |>.trans' (hl) (fun i h1 h2 => h2)) (fun k hk => by omega) (Nat.le_refl _))
  clear hh hl
  have c8 : w2.cell? ⟨w.heap.size + 1 + 1 + 1, 8, none⟩ = some (.int .i64 0) := HR.out.cell 8
  have c9 : w2.cell? ⟨w.heap.size + 1 + 1 + 1, 9, none⟩ = some (.int .i64 0) := HR.out.cell 9
  have c10 : w2.cell? ⟨w.heap.size + 1 + 1 + 1, 10, none⟩ = some (.int .i64 0) := HR.out.cell 10
  have c11 : w2.cell? ⟨w.heap.size + 1 + 1 + 1, 11, none⟩ = some (.int .i64 0) := HR.out.cell 11
  have c14 : w2.cell? ⟨w.heap.size + 1 + 1 + 1, 14, none⟩ = some (.int .i64 0) := HR.out.cell 14
  have c15 : w2.cell? ⟨w.heap.size + 1 + 1 + 1, 15, none⟩ = some (.int .i64 0) := HR.out.cell 15
  have c16 : w2.cell? ⟨w.heap.size + 1 + 1 + 1, 16, none⟩ = some (.int .i64 0) := HR.out.cell 16
  have c17 : w2.cell? ⟨w.heap.size + 1 + 1 + 1, 17, none⟩ = some (.int .i64 0) := HR.out.cell 17
  have c12 : w2.cell? ⟨w.heap.size + 1 + 1 + 1, 12, none⟩ = some (.int .i64 0) := HR.out.cell 12
  have c13 : w2.cell? ⟨w.heap.size + 1 + 1 + 1, 13, none⟩ = some (.int .i64 0) := HR.out.cell 13
  have f8 : w2.frozen? ⟨w.heap.size + 1 + 1 + 1, 8, none⟩ = false := HR.out.free 8
  have f9 : w2.frozen? ⟨w.heap.size + 1 + 1 + 1, 9, none⟩ = false := HR.out.free 9
  have f10 : w2.frozen? ⟨w.heap.size + 1 + 1 + 1, 10, none⟩ = false := HR.out.free 10
  have f11 : w2.frozen? ⟨w.heap.size + 1 + 1 + 1, 11, none⟩ = false := HR.out.free 11
  have f14 : w2.frozen? ⟨w.heap.size + 1 + 1 + 1, 14, none⟩ = false := HR.out.free 14
  have f15 : w2.frozen? ⟨w.heap.size + 1 + 1 + 1, 15, none⟩ = false := HR.out.free 15
  have f16 : w2.frozen? ⟨w.heap.size + 1 + 1 + 1, 16, none⟩ = false := HR.out.free 16
  have f17 : w2.frozen? ⟨w.heap.size + 1 + 1 + 1, 17, none⟩ = false := HR.out.free 17
  have f12 : w2.frozen? ⟨w.heap.size + 1 + 1 + 1, 12, none⟩ = false := HR.out.free 12
  have f13 : w2.frozen? ⟨w.heap.size + 1 + 1 + 1, 13, none⟩ = false := HR.out.free 13
  have m0 : w2.cell? ⟨w.heap.size + 1, 0, none⟩ = some (.int .i64 0) := HM.out.cell 0
  have m1 : w2.cell? ⟨w.heap.size + 1, 1, none⟩ = some (.int .i64 1073741824) := HM.out.cell 1
  have p0 : w2.cell? ⟨w.heap.size + 1 + 1, 0, none⟩ = some (.int .i64 1) := HP.out.cell 0
  have p1 : w2.cell? ⟨w.heap.size + 1 + 1, 1, none⟩ = some (.int .i64 1073741824) := HP.out.cell 1
  have n1 : ¬ (w.heap.size + 1 + 1 = w.heap.size) := by omega
  have n2 : ¬ (w.heap.size = w.heap.size + 1 + 1) := by omega
  have n3 : ¬ (w.heap.size + 1 + 1 + 1 = w.heap.size + 1) := by omega
  have n4 : ¬ (w.heap.size + 1 = w.heap.size + 1 + 1 + 1) := by omega
  go_region_held3 (fun w' => w'.cell? ⟨w.heap.size + 1, 0, none⟩ = some (.int .i64 0) ∧ w'.cell? ⟨w.heap.size + 1, 1, none⟩ = some (.int .i64 1073741824) ∧ w'.cell? ⟨w.heap.size + 1 + 1, 0, none⟩ = some (.int .i64 1) ∧ w'.cell? ⟨w.heap.size + 1 + 1, 1, none⟩ = some (.int .i64 1073741824)) (go_keep) (fail)
  go_upto_region 18 with (fail)
  go_wp2_with (first
    | (refine wpList_load_has rfl 207 (.tmp 5) rfl (w.heap.size + 1 + 1 + 1) rfl _ _ _ ((((((((((HR.out.put 8 (.int .i64 0)).put 9 (.int .i64 1073741824)).put 10 (.int .i64 1)).put 11 (.int .i64 1073741824)).put 14 (.int .i64 0)).put 15 (.int .i64 1073741824)).put 16 (.int .i64 0)).put 17 (.int .i64 1073741824)).put 12 (.int .i64 1)).put 13 (.int .i64 8784)).drew Tryz.underlying207 rfl HI.out ?_)
    | (refine wpList_store_has rfl 207 (.tmp 2) (.tmp 59) rfl w.heap.size rfl _ rfl _ _ ((((((((((HZ.out.far (by simp; omega) _).far (by simp; omega) _).far (by simp; omega) _).far (by simp; omega) _).far (by simp; omega) _).far (by simp; omega) _).far (by simp; omega) _).far (by simp; omega) _).far (by simp; omega) _).far (by simp; omega) _).drew HI.out rfl rfl ?_; intro w3 hh hl)
    | fail)
  refine bodyPost_ret (v := .agg (spanCells 5)) (results_cell_row Tryz.results123 _ _ _ _ _ (0, 0) _ rfl hh Tryz.underlying207 rfl HI.out) rfl ⟨rfl, ?_⟩
  exact Below.trans (by (repeat' (first | (with_reducible exact HB.out) | (with_reducible refine Below.setCell ?_ ?_ _) | (with_reducible refine Below.drew ?_))) <;> (simp; omega)) (hl.below (B := w.heap.size) (fun k hk => by omega) (by have := HB.out.size; simp; omega))

set_option maxRecDepth 100000 in
set_option maxHeartbeats 2000000 in
theorem rule6 (w : World) : Calls Tryz.prog 123 #[.int .i64 6] w (RulePost 6 w) := by
  have HI := Lib.hid rule_info
  go_enter Tryz.func123, Tryz.ntmps123
  go_upto_region 2 with (fail)
  go_upto_region 17 with (first
    | (refine wpList_build_is rfl 207 [(10, .tmp 8)] rfl [(10, .agg #[.int .i64 0, .int .i64 1073741824])] rfl zz22 rule_built ?_)
    | (refine wpList_store_has rfl 207 (.tmp 5) (.tmp 9) rfl (w.heap.size + 1 + 1 + 1) rfl zz22 rfl _ _ (Has.new' _ _ _ _ (by simp)) HI.out rfl rfl ?_; intro w2 hh hl)
    | fail)
  have HZ : Hid (Has w2 w.heap.size #[.int .i64 0, .int .i64 0, .int .i64 0, .int .i64 0, .int .i64 0, .int .i64 0, .int .i64 0, .int .i64 0, .int .i64 0, .int .i64 0, .int .i64 0, .int .i64 0, .int .i64 0, .int .i64 0, .int .i64 0, .int .i64 0, .int .i64 0, .int .i64 0, .int .i64 0, .int .i64 0, .int .i64 0, .int .i64 0] 207) := Lib.hid (Has.leaves ((((Has.new w _ _).alloc _).alloc _).alloc _) hl (by omega))
  have HM : Hid (Has w2 (w.heap.size + 1) #[.int .i64 0, .int .i64 1073741824] 205) := Lib.hid (Has.leaves (((Has.new' _ _ _ _ (by simp)).alloc _).alloc _) hl (by omega))
  have HP : Hid (Has w2 (w.heap.size + 1 + 1) #[.int .i64 1, .int .i64 1073741824] 205) := Lib.hid (Has.leaves ((Has.new' _ _ _ _ (by simp)).alloc _) hl (by omega))
  have HR := Lib.hid hh
  have HB : Hid (Below w.heap.size w w2) := Lib.hid (Leaves.below (((((Leaves.refl _ w).alloc _).alloc _).alloc _).alloc _ |>.trans' (hl) (fun i h1 h2 => h2)) (fun k hk => by omega) (Nat.le_refl _))
  clear hh hl
  have c8 : w2.cell? ⟨w.heap.size + 1 + 1 + 1, 8, none⟩ = some (.int .i64 0) := HR.out.cell 8
  have c9 : w2.cell? ⟨w.heap.size + 1 + 1 + 1, 9, none⟩ = some (.int .i64 0) := HR.out.cell 9
  have c10 : w2.cell? ⟨w.heap.size + 1 + 1 + 1, 10, none⟩ = some (.int .i64 0) := HR.out.cell 10
  have c11 : w2.cell? ⟨w.heap.size + 1 + 1 + 1, 11, none⟩ = some (.int .i64 0) := HR.out.cell 11
  have f8 : w2.frozen? ⟨w.heap.size + 1 + 1 + 1, 8, none⟩ = false := HR.out.free 8
  have f9 : w2.frozen? ⟨w.heap.size + 1 + 1 + 1, 9, none⟩ = false := HR.out.free 9
  have f10 : w2.frozen? ⟨w.heap.size + 1 + 1 + 1, 10, none⟩ = false := HR.out.free 10
  have f11 : w2.frozen? ⟨w.heap.size + 1 + 1 + 1, 11, none⟩ = false := HR.out.free 11
  have m0 : w2.cell? ⟨w.heap.size + 1, 0, none⟩ = some (.int .i64 0) := HM.out.cell 0
  have m1 : w2.cell? ⟨w.heap.size + 1, 1, none⟩ = some (.int .i64 1073741824) := HM.out.cell 1
  have p0 : w2.cell? ⟨w.heap.size + 1 + 1, 0, none⟩ = some (.int .i64 1) := HP.out.cell 0
  have p1 : w2.cell? ⟨w.heap.size + 1 + 1, 1, none⟩ = some (.int .i64 1073741824) := HP.out.cell 1
  have n1 : ¬ (w.heap.size + 1 + 1 = w.heap.size) := by omega
  have n2 : ¬ (w.heap.size = w.heap.size + 1 + 1) := by omega
  have n3 : ¬ (w.heap.size + 1 + 1 + 1 = w.heap.size + 1) := by omega
  have n4 : ¬ (w.heap.size + 1 = w.heap.size + 1 + 1 + 1) := by omega
  go_region_held3 (fun w' => w'.cell? ⟨w.heap.size + 1, 0, none⟩ = some (.int .i64 0) ∧ w'.cell? ⟨w.heap.size + 1, 1, none⟩ = some (.int .i64 1073741824) ∧ w'.cell? ⟨w.heap.size + 1 + 1, 0, none⟩ = some (.int .i64 1) ∧ w'.cell? ⟨w.heap.size + 1 + 1, 1, none⟩ = some (.int .i64 1073741824)) (go_keep) (fail)
  go_upto_region 18 with (fail)
  go_wp2_with (first
    | (refine wpList_load_has rfl 207 (.tmp 5) rfl (w.heap.size + 1 + 1 + 1) rfl _ _ _ ((((HR.out.put 8 (.int .i64 0)).put 9 (.int .i64 1073741824)).put 10 (.int .i64 1)).put 11 (.int .i64 1073741824)).drew Tryz.underlying207 rfl HI.out ?_)
    | (refine wpList_store_has rfl 207 (.tmp 2) (.tmp 59) rfl w.heap.size rfl _ rfl _ _ ((((HZ.out.far (by simp; omega) _).far (by simp; omega) _).far (by simp; omega) _).far (by simp; omega) _).drew HI.out rfl rfl ?_; intro w3 hh hl)
    | fail)
  refine bodyPost_ret (v := .agg (spanCells 6)) (results_cell_row Tryz.results123 _ _ _ _ _ (0, 0) _ rfl hh Tryz.underlying207 rfl HI.out) rfl ⟨rfl, ?_⟩
  exact Below.trans (by (repeat' (first | (with_reducible exact HB.out) | (with_reducible refine Below.setCell ?_ ?_ _) | (with_reducible refine Below.drew ?_))) <;> (simp; omega)) (hl.below (B := w.heap.size) (fun k hk => by omega) (by have := HB.out.size; simp; omega))
end Go.Proofs.YtbeikfopneeodaaGreat
