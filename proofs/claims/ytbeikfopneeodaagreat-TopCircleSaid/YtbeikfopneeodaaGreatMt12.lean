/- The example of the offices: programme.Amounts. -/
import Derived.Test.YtbeikfopneeodaaGreatMt09
import Derived.Test.YtbeikfopneeodaaGreatMt11
import Derived.Deep.MidRow
namespace Go.Proofs.YtbeikfopneeodaaGreat
open Go.RowKit
set_option linter.unusedVariables false

/-- the loss of the example -/
def lossC : Array Value := #[.int .i64 7, .int .i64 0, .int .i64 0, .int .i64 1, .int .i64 0, .int .i64 0, .int .i64 0, .int .i64 0, .int .i64 100, .int .i64 30]

set_option maxRecDepth 100000 in
theorem contains_aw (w : World) : Calls Tryz.prog 232 #[.agg #[.int .i64 0, .int .i64 100], .int .i64 1] w (BoolPost true w) := by
  go_enter Tryz.func232, Tryz.ntmps232
  go_wp2_with fail
  refine (period_any _ _ _).mono ?_
  rintro e w1 ⟨rfl, hb⟩
  have hp : Ty.perP 0 100 = true := by decide
  have HB : Hid (Has w1 w.heap.size #[.int .i64 0, .int .i64 100] 49) := Lib.hid ((Has.new w _ _).below hb (by simp))
  have HW : Hid (Below w.heap.size w w1) := Lib.hid (((Below.refl _ _).alloc (Nat.le_refl _) _).trans (hb.mono (by simp)))
  clear hb
  obtain ⟨f0, f1, f2⟩ := HB.out.rules
  rw [hp]
  go_wp2_with fail
  go_ret
  exact ⟨rfl, HW.out⟩

set_option maxRecDepth 100000 in
set_option maxHeartbeats 1000000 in
theorem applies_aw (b c : Nat) (w : World) (h : PartAt w w.heap.size b) : Calls Tryz.prog 196 #[.agg (awC b c), .agg lossC] w (BoolPost true w) := by
  have HP := Lib.hid h
  have HTI := Lib.hid (awC_info (b := b) (c := c) ty_info rfl)
  have HL : Hid (lossC = #[.int .i64 7, .int .i64 0, .int .i64 0, .int .i64 1, .int .i64 0, .int .i64 0, .int .i64 0, .int .i64 0, .int .i64 100, .int .i64 30]) := Lib.hid rfl
  clear h
  go_enter Tryz.func196, Tryz.ntmps196
  have HB0 := Lib.hid ((Has.new w (awC b c) 54).alloc (.cells lossC 72))
  have HB1 := Lib.hid (Has.new' (w.alloc (.cells (awC b c) 54)) (w.heap.size + 1) lossC 72 (by simp))
  go_wp2_with (refine wpList_load_has ?_ 54 (.tmp 2) ?_ w.heap.size ?_ _ (awC b c) _ HB0.out Tryz.underlying54 ?_ HTI.out ?_; rfl; rfl; rfl; rfl)
  refine (awvalid b c _ (HP.out.later (by (repeat' (first | (with_reducible exact Below.refl _ _) | (with_reducible refine Below.setCell ?_ ?_ _) | (with_reducible refine below_drewN ?_ _) | (with_reducible refine Below.drew ?_) | (with_reducible refine Below.alloc ?_ ?_ _))) <;> (first | omega | (simp <;> omega))))).mono ?_
  rintro e w1 ⟨rfl, hb⟩
  have HW : Hid (Below w.heap.size w w1) := Lib.hid (Below.trans (b := (w.alloc (.cells (awC b c) 54)).alloc (.cells lossC 72)) (by (repeat' (first | (with_reducible exact Below.refl _ _) | (with_reducible refine Below.setCell ?_ ?_ _) | (with_reducible refine below_drewN ?_ _) | (with_reducible refine Below.drew ?_) | (with_reducible refine Below.alloc ?_ ?_ _))) <;> (first | omega | (simp <;> omega))) (hb.mono (by simp; omega)))
  replace HB0 := Lib.hid (HB0.out.below hb (by simp; omega))
  replace HB1 := Lib.hid (HB1.out.below hb (by simp))
  have x1 : w1.cell? ⟨w.heap.size, 1, none⟩ = some (.int .i64 1) := HB0.out.cell 1
  have x2 : w1.cell? ⟨w.heap.size, 2, none⟩ = some (.int .i64 0) := HB0.out.cell 2
  have x3 : w1.cell? ⟨w.heap.size, 3, none⟩ = some (.int .i64 100) := HB0.out.cell 3
  have x4 : w1.cell? ⟨w.heap.size, 4, none⟩ = some (.slice none 0 0) := HB0.out.cell 4
  have x5 : w1.cell? ⟨w.heap.size, 5, none⟩ = some (.slice none 0 0) := HB0.out.cell 5
  have y3 : w1.cell? ⟨w.heap.size + 1, 3, none⟩ = some (.int .i64 1) := HB1.out.cell 3
  clear hb HB1
  go_wp2_with fail
  refine (contains_aw _).mono ?_
  rintro e w2 ⟨rfl, hb⟩
  replace HB0 := Lib.hid (HB0.out.below hb HB0.out.lt)
  replace HW := Lib.hid (HW.out.trans (hb.mono HW.out.size))
  clear x1 x2 x3 x4 x5 y3 hb
  have x1 : w2.cell? ⟨w.heap.size, 1, none⟩ = some (.int .i64 1) := HB0.out.cell 1
  have x4 : w2.cell? ⟨w.heap.size, 4, none⟩ = some (.slice none 0 0) := HB0.out.cell 4
  have x5 : w2.cell? ⟨w.heap.size, 5, none⟩ = some (.slice none 0 0) := HB0.out.cell 5
  go_wp2_with fail
  go_ret
  exact ⟨rfl, HW.out⟩

set_option maxRecDepth 100000 in
set_option maxHeartbeats 1000000 in
theorem pvalidloss_aw (w : World) : Calls Tryz.prog 172 #[.agg lossC] w (BoolPost true w) := by
  unfold lossC
  go_enter Tryz.func172, Tryz.ntmps172
  go_wp2_with fail
  go_ret
  exact ⟨rfl, (Below.refl _ _).alloc (Nat.le_refl _) _⟩

set_option maxRecDepth 100000 in
theorem hourv_aw (w : World) : Calls Tryz.prog 54 #[.int .i64 1] w fun e w' => e = .returned (.bool true) ∧ w = w' := by
  go_enter Tryz.func54, Tryz.ntmps54
  go_wp2_with fail
  go_ret
  exact ⟨rfl, rfl⟩
theorem curv_aw (w : World) : Calls Tryz.prog 288 #[.int .i64 0] w fun e w' => e = .returned (.bool true) ∧ w = w' := by
  go_enter Tryz.func288, Tryz.ntmps288
  go_wp2_with fail
  go_ret
  exact ⟨rfl, rfl⟩
set_option maxRecDepth 100000 in
theorem convl_aw (a : Int) (ha : Am.validB a = true) (w : World) : Calls Tryz.prog 248 #[.slice none 0 0, .agg #[.int .i64 0, .int .i64 a], .int .i64 0, .int .i64 1] w fun e w' => e = .returned (.tuple #[.int .i64 a, .int .i64 0]) ∧ Below w.heap.size w w' := by
  have HA := Lib.hid ha
  clear ha
  go_enter Tryz.func248, Tryz.ntmps248
  go_wp2_with fail
  refine (valid_any _ _).mono ?_
  rintro e w1 ⟨rfl, rfl⟩
  rw [HA.out]
  go_wp2_with fail
  refine (hourv_aw _).mono ?_
  rintro e w1 ⟨rfl, rfl⟩
  go_wp2_with fail
  refine (curv_aw _).mono ?_
  rintro e w1 ⟨rfl, rfl⟩
  go_wp2_with fail
  refine (curv_aw _).mono ?_
  rintro e w1 ⟨rfl, rfl⟩
  go_wp2_with fail
  go_ret2
  exact ⟨rfl, (Below.refl _ _).alloc (Nat.le_refl _) _⟩
set_option maxRecDepth 100000 in
theorem conv_aw (a : Int) (ha : Am.validB a = true) (w : World) : Calls Tryz.prog 207 #[.slice none 0 0, .agg #[.int .i64 0, .int .i64 a], .int .i64 0, .int .i64 1] w fun e w' => e = .returned (.tuple #[.int .i64 a, .int .i64 0]) ∧ Below w.heap.size w w' := by
  have HA := Lib.hid ha
  clear ha
  go_enter Tryz.func207, Tryz.ntmps207
  go_wp2_with fail
  refine (xval_nil _).mono ?_
  rintro e w1 ⟨rfl, rfl⟩
  go_wp2_with fail
  refine (convl_aw a HA.out _).mono ?_
  rintro e w1 ⟨rfl, hb⟩
  have HB := Lib.hid (((Below.refl _ _).alloc (Nat.le_refl w.heap.size) (.cells #[.int .i64 0, .int .i64 a] 352)).trans (hb.mono (by simp)))
  clear hb
  go_wp2_with fail
  go_ret2
  exact ⟨rfl, HB.out⟩

set_option maxRecDepth 100000 in
theorem arr3_info : (Tryz.prog.info? 301).map (·.size) = some 3 := by kernel_rfl
/-- the blocks of convert -/
structure Cv (w : World) (B : Nat) (g c : Nat) (W : World) : Prop where
  bel : Below w.heap.size w W
  p : Has W B (awP g c) 59
  l : Has W (B + 1) lossC 72
  r : Has W (B + 2) #[.int .i64 0, .int .i64 0, .int .i64 0] 301
  v : Has W (B + 3) #[.int .i64 100, .int .i64 30, .int .i64 0] 301
theorem Cv.later {w : World} {B g c : Nat} {W W' : World} (h : Cv w B g c W) (hb : Below W.heap.size W W') : Cv w B g c W' :=
  ⟨h.bel.trans (hb.mono h.bel.size), h.p.below hb h.p.lt, h.l.below hb h.l.lt, h.r.below hb h.r.lt, h.v.below hb h.v.lt⟩
theorem Cv.put {w : World} {B g c : Nat} {W : World} (h : Cv w B g c W) (hB : w.heap.size ≤ B) (i : Nat) (u : Value) (hu : (#[.int .i64 100, .int .i64 30, .int .i64 0] : Array Value).setIfInBounds i u = #[.int .i64 100, .int .i64 30, .int .i64 0]) :
    Cv w B g c (W.setCell ⟨B + 3, i, none⟩ u) :=
  ⟨h.bel.setCell (p := ⟨B + 3, i, none⟩) (by simp only; omega) u, h.p.far (p := ⟨B + 3, i, none⟩) (by simp only; omega) u, h.l.far (p := ⟨B + 3, i, none⟩) (by simp only; omega) u, h.r.far (p := ⟨B + 3, i, none⟩) (by simp only; omega) u, by
    have := h.v.put i u
    rwa [hu] at this⟩

set_option maxRecDepth 100000 in
set_option maxHeartbeats 2000000 in
theorem pconvert_aw (g c : Nat) (w : World) : Calls Tryz.prog 173 #[.agg (awP g c), .agg lossC] w fun e w' => e = .returned (.tuple #[.agg #[.int .i64 100, .int .i64 30, .int .i64 0], .int .i64 0]) ∧ Below w.heap.size w w' := by
  have i0 : ∀ (x y z : Int) (w : World), (Instr.index 301 (.agg #[.int .i64 x, .int .i64 y, .int .i64 z]) (.int .i64 0)).run Tryz.prog w = .ok (.int .i64 x) w := fun _ _ _ _ => by kernel_rfl
  have i1 : ∀ (x y z : Int) (w : World), (Instr.index 301 (.agg #[.int .i64 x, .int .i64 y, .int .i64 z]) (.int .i64 1)).run Tryz.prog w = .ok (.int .i64 y) w := fun _ _ _ _ => by kernel_rfl
  have i2 : ∀ (x y z : Int) (w : World), (Instr.index 301 (.agg #[.int .i64 x, .int .i64 y, .int .i64 z]) (.int .i64 2)).run Tryz.prog w = .ok (.int .i64 z) w := fun _ _ _ _ => by kernel_rfl
  have HI0 := Lib.hid i0
  have HI1 := Lib.hid i1
  have HI2 := Lib.hid i2
  unfold awP lossC
  go_enter Tryz.func173, Tryz.ntmps173
  go_wp2_with fail
  have hc : Cv w w.heap.size g c ((((w.alloc (.cells (awP g c) 59)).alloc (.cells lossC 72)).alloc (.cells #[.int .i64 0, .int .i64 0, .int .i64 0] 301)).alloc (.cells #[.int .i64 100, .int .i64 30, .int .i64 0] 301)) :=
    ⟨(by (repeat' (first | (with_reducible exact Below.refl _ _) | (with_reducible refine Below.setCell ?_ ?_ _) | (with_reducible refine below_drewN ?_ _) | (with_reducible refine Below.drew ?_) | (with_reducible refine Below.alloc ?_ ?_ _))) <;> (first | omega | (simp <;> omega))), ((((Has.new w _ _).alloc _).alloc _).alloc _), (((Has.new' _ _ _ _ (by simp)).alloc _).alloc _), ((Has.new' _ _ _ _ (by simp)).alloc _), (Has.new' _ _ _ _ (by simp))⟩
  obtain ⟨W0, hW0⟩ : ∃ W, (((w.alloc (.cells (awP g c) 59)).alloc (.cells lossC 72)).alloc (.cells #[.int .i64 0, .int .i64 0, .int .i64 0] 301)).alloc (.cells #[.int .i64 100, .int .i64 30, .int .i64 0] 301) = W := ⟨_, rfl⟩
  rw [hW0] at hc
  unfold awP lossC at hW0
  rw [hW0]
  clear hW0
  obtain ⟨B, hB⟩ : ∃ B, w.heap.size = B := ⟨_, rfl⟩
  rw [hB] at hc
  have HC : Hid (Cv w B g c W0) := Lib.hid hc
  have HW : Hid (w.heap.size ≤ B) := Lib.hid (by omega)
  rw [hB]
  clear hB hc
  obtain ⟨p0, p1, p2⟩ := HC.out.p.rules
  obtain ⟨l0, l1, l2⟩ := HC.out.l.rules
  obtain ⟨v0, v1, v2⟩ := HC.out.v.rules
  unfold awP at p0
  unfold lossC at l0
  refine wp_loop_rounds 4 ?_
  rw [rounds_succ]
  go_wp2_with fail
  refine (conv_aw 100 (by decide) _).mono ?_
  rintro e w1 ⟨rfl, hb⟩
  replace HC := Lib.hid (HC.out.later hb)
  clear p0 p1 p2 l0 l1 l2 v0 v1 v2 hb
  obtain ⟨p0, p1, p2⟩ := HC.out.p.rules
  obtain ⟨l0, l1, l2⟩ := HC.out.l.rules
  obtain ⟨v0, v1, v2⟩ := HC.out.v.rules
  unfold awP at p0
  unfold lossC at l0
  go_wp2_with fail
  replace HC := Lib.hid (HC.out.put HW.out 0 (.int .i64 100) rfl)
  clear p0 p1 p2 l0 l1 l2 v0 v1 v2
  obtain ⟨p0, p1, p2⟩ := HC.out.p.rules
  obtain ⟨l0, l1, l2⟩ := HC.out.l.rules
  obtain ⟨v0, v1, v2⟩ := HC.out.v.rules
  unfold awP at p0
  unfold lossC at l0
  rw [rounds_succ]
  go_wp2_with fail
  refine (conv_aw 30 (by decide) _).mono ?_
  rintro e w2 ⟨rfl, hb⟩
  replace HC := Lib.hid (HC.out.later hb)
  clear p0 p1 p2 l0 l1 l2 v0 v1 v2 hb
  obtain ⟨p0, p1, p2⟩ := HC.out.p.rules
  obtain ⟨l0, l1, l2⟩ := HC.out.l.rules
  obtain ⟨v0, v1, v2⟩ := HC.out.v.rules
  unfold awP at p0
  unfold lossC at l0
  go_wp2_with fail
  replace HC := Lib.hid (HC.out.put HW.out 1 (.int .i64 30) rfl)
  clear p0 p1 p2 l0 l1 l2 v0 v1 v2
  obtain ⟨p0, p1, p2⟩ := HC.out.p.rules
  obtain ⟨l0, l1, l2⟩ := HC.out.l.rules
  obtain ⟨v0, v1, v2⟩ := HC.out.v.rules
  unfold awP at p0
  unfold lossC at l0
  rw [rounds_succ]
  go_wp2_with fail
  refine (conv_aw 0 (by decide) _).mono ?_
  rintro e w3 ⟨rfl, hb⟩
  replace HC := Lib.hid (HC.out.later hb)
  clear p0 p1 p2 l0 l1 l2 v0 v1 v2 hb
  obtain ⟨p0, p1, p2⟩ := HC.out.p.rules
  obtain ⟨l0, l1, l2⟩ := HC.out.l.rules
  obtain ⟨v0, v1, v2⟩ := HC.out.v.rules
  unfold awP at p0
  unfold lossC at l0
  go_wp2_with fail
  replace HC := Lib.hid (HC.out.put HW.out 2 (.int .i64 0) rfl)
  clear p0 p1 p2 l0 l1 l2 v0 v1 v2
  obtain ⟨p0, p1, p2⟩ := HC.out.p.rules
  obtain ⟨l0, l1, l2⟩ := HC.out.l.rules
  obtain ⟨v0, v1, v2⟩ := HC.out.v.rules
  unfold awP at p0
  unfold lossC at l0
  rw [rounds_succ]
  go_wp2_with fail
  refine wp_loop_rounds 4 ?_
  rw [rounds_succ]
  go_wp2_with fail
  rw [rounds_succ]
  go_wp2_with fail
  rw [rounds_succ]
  go_wp2_with fail
  rw [rounds_succ]
  obtain ⟨r0, r1, r2⟩ := HC.out.r.rules
  go_wp2_with fail
  have HR := ((HC.out.r.put 0 (.int .i64 100)).put 1 (.int .i64 30)).put 2 (.int .i64 0)
  have hws := HW.out
  refine bodyPost_ret (results_cell_tmp rfl _ _ (B + 2) _ #[.int .i64 100, .int .i64 30, .int .i64 0] _ _ (.int .i64 0) ?_ ?_ HR Tryz.underlying301 rfl arr3_info) rfl ?_
  · rfl
  · rfl
  · exact ⟨rfl, ((HC.out.bel.setCell (p := ⟨B + 2, 0, none⟩) (by simp only; omega) _).setCell (p := ⟨B + 2, 1, none⟩) (by simp only; omega) _).setCell (p := ⟨B + 2, 2, none⟩) (by simp only; omega) _⟩

set_option maxRecDepth 100000 in
theorem prog_info0 : (Tryz.prog.info? 59).map (·.size) = some 4 := by kernel_rfl
theorem prog_info (g c : Nat) : (Tryz.prog.info? 59).map (·.size) = some (awP g c).size := prog_info0
set_option maxRecDepth 100000 in
theorem loss_info : (Tryz.prog.info? 72).map (·.size) = some 10 := by kernel_rfl
theorem loss_info' : (Tryz.prog.info? 72).map (·.size) = some lossC.size := loss_info
/-- the loss lies at the head of block l, whatever lies behind it (a slice that a clone has made) -/
def LossAt (w : World) (l : Nat) : Prop := (∀ j, j < 10 → w.cell? ⟨l, j, none⟩ = lossC[j]?) ∧ l < w.heap.size
theorem LossAt.lt {w : World} {l : Nat} (h : LossAt w l) : l < w.heap.size := h.2
theorem LossAt.below {w w' : World} {l B : Nat} (h : LossAt w l) (hb : Below B w w') (hl : l < B) : LossAt w' l := ⟨fun j hj => (hb.cell (p := ⟨l, j, none⟩) hl).trans (h.1 j hj), Nat.lt_of_lt_of_le h.2 hb.size⟩
theorem LossAt.leaves {w w' : World} {l : Nat} {T : Nat → Prop} (h : LossAt w l) (hl : Leaves T w w') (hn : ¬ T l) : LossAt w' l := ⟨fun j hj => by
  have e : w'.cell? ⟨l, j, none⟩ = w.cell? ⟨l, j, none⟩ := by
    unfold World.cell?
    rw [show w'.heap[l]? = w.heap[l]? from hl.block l h.2 hn]
  exact e.trans (h.1 j hj), Nat.lt_of_lt_of_le h.2 hl.size⟩
theorem LossAt.alloc {w : World} {l : Nat} (h : LossAt w l) (o : Obj) : LossAt (w.alloc o) l := h.below ((Below.refl _ _).alloc (Nat.le_refl _) o) h.2
theorem LossAt.of_has {w : World} {l : Nat} (h : Has w l lossC 72) : LossAt w l := ⟨fun j _ => h.cell j, h.lt⟩
theorem wpList_load_loss {ops : Array Oper} {rest : List Oper} {op : Oper} {a : Act} {w : World} {Q : Exit → Act → World → Prop} (hgd : op.guard = none) (x : Operand) (ho : op.op = .load 72 x)
    (l : Nat) (hx : a.eval x = .pointer (some ⟨l, 0, none⟩)) (h : LossAt w l) (k : wpList Tryz.prog ops Q rest (a.put op.dst (.agg lossC)) w) : wpList Tryz.prog ops Q (op :: rest) a w :=
  wpList_load_mid hgd 72 x ho l 0 hx lossC.toList _ (fun j v hv => by
    have hj : j < 10 := (List.getElem?_eq_some_iff.1 hv).1
    rw [Nat.zero_add, h.1 j hj]
    simpa using hv) Tryz.underlying72 rfl loss_info k
def zeroL : Array Value := #[.int .i64 0, .int .i64 0, .int .i64 0, .int .i64 0, .int .i64 0, .int .i64 0, .int .i64 0, .int .i64 0, .int .i64 0, .int .i64 0]

end Go.Proofs.YtbeikfopneeodaaGreat
