/- ledger.Validate at no posting and at the four of the example (printed by wip/gen/tclb.py). ledger.Totals, ledger.clone at a ledger with no posting. -/
import Derived.Test.YtbeikfopneeodaaGreatMt24
import Derived.Test.YtbeikfopneeodaaGreatMt28
import Derived.Test.YtbeikfopneeodaaGreatMt13
namespace Go.Proofs.YtbeikfopneeodaaGreat
open Go.RowKit
set_option linter.unusedVariables false

set_option maxRecDepth 100000 in
theorem lval_nil (w : World) : Calls Tryz.prog 31 #[.agg #[.int .i64 0, .slice none 0 0]] w (IntPost 0 w) := by
  go_enter Tryz.func31, Tryz.ntmps31
  go_wp2_with fail
  refine wp_loop_rounds 1 ?_
  rw [rounds_succ]
  go_wp2_with fail
  go_ret
  exact ⟨rfl, (Below.refl _ _).alloc (Nat.le_refl _) _⟩

/-- the four postings -/
def poL : List Value := [.int .i64 1, .int .i64 0, .int .i64 1, .int .i64 0, .int .i64 0, .int .i64 7, .int .i64 15, .int .i64 2, .int .i64 0, .int .i64 1, .int .i64 1, .int .i64 2, .int .i64 7, .int .i64 15, .int .i64 3, .int .i64 0, .int .i64 2, .int .i64 0, .int .i64 0, .int .i64 7, .int .i64 35, .int .i64 4, .int .i64 0, .int .i64 2, .int .i64 1, .int .i64 2, .int .i64 7, .int .i64 35]
/-- they lie in block X -/
def PoAt (w : World) (X : Nat) : Prop := (∀ j, j < 28 → w.cell? ⟨X, j, none⟩ = some poL[j]!) ∧ X < w.heap.size
theorem PoAt.below {w w' : World} {X : Nat} (h : PoAt w X) (hb : Below w.heap.size w w') : PoAt w' X :=
  ⟨fun j hj => (hb.cell (p := ⟨X, j, none⟩) h.2).trans (h.1 j hj), Nat.lt_of_lt_of_le h.2 hb.size⟩

set_option maxRecDepth 100000 in
set_option maxHeartbeats 4000000 in
theorem lval_four (X cap : Nat) (w : World) (h : PoAt w X) : Calls Tryz.prog 31 #[.agg #[.int .i64 0, .slice (some ⟨X, 0, none⟩) 4 cap]] w (IntPost 0 w) := by
  have HX := Lib.hid (h.below ((Below.refl _ _).alloc (Nat.le_refl _) (.cells #[.int .i64 0, .slice (some ⟨X, 0, none⟩) 4 cap] 64)))
  have HL := Lib.hid (Has.new w #[.int .i64 0, .slice (some ⟨X, 0, none⟩) 4 cap] 64)
  have HB : Hid (Below w.heap.size w (w.alloc (.cells #[.int .i64 0, .slice (some ⟨X, 0, none⟩) 4 cap] 64))) := Lib.hid ((Below.refl _ _).alloc (Nat.le_refl _) _)
  clear h
  go_enter Tryz.func31, Tryz.ntmps31
  go_wp2_with fail
  refine wp_loop_rounds 5 ?_
  obtain ⟨v0, hv⟩ : ∃ W, w.alloc (.cells #[.int .i64 0, .slice (some ⟨X, 0, none⟩) 4 cap] 64) = W := ⟨_, rfl⟩
  obtain ⟨Q, hQ⟩ : ∃ Q, w.heap.size = Q := ⟨_, rfl⟩
  rw [hv] at HX HL HB ⊢
  rw [hQ] at HL ⊢
  clear hv hQ
  rw [rounds_succ]
  have x0 : v0.cell? ⟨X, 0, none⟩ = some (.int .i64 1) := HX.out.1 0 (by omega)
  have x1 : v0.cell? ⟨X, 1, none⟩ = some (.int .i64 0) := HX.out.1 1 (by omega)
  have x2 : v0.cell? ⟨X, 2, none⟩ = some (.int .i64 1) := HX.out.1 2 (by omega)
  have x3 : v0.cell? ⟨X, 3, none⟩ = some (.int .i64 0) := HX.out.1 3 (by omega)
  have x4 : v0.cell? ⟨X, 4, none⟩ = some (.int .i64 0) := HX.out.1 4 (by omega)
  have x5 : v0.cell? ⟨X, 5, none⟩ = some (.int .i64 7) := HX.out.1 5 (by omega)
  have x6 : v0.cell? ⟨X, 6, none⟩ = some (.int .i64 15) := HX.out.1 6 (by omega)
  have xl := HX.out.2
  go_wp2_with fail
  refine (lvalid_p0 _).mono ?_
  rintro e u0 ⟨rfl, hb⟩
  have hb1 : Below v0.heap.size v0 u0 := ((Below.refl _ _).alloc (Nat.le_refl _) _).trans (hb.mono (by simp))
  have hg : Has u0 v0.heap.size #[.int .i64 1, .int .i64 0, .int .i64 1, .int .i64 0, .int .i64 0, .int .i64 7, .int .i64 15] 101 := (Has.new v0 _ _).below hb (by simp)
  replace HB := Lib.hid (HB.out.trans (hb1.mono HB.out.size))
  replace HX := Lib.hid (HX.out.below hb1)
  replace HL := Lib.hid (HL.out.below hb1 HL.out.lt)
  clear hb hb1 x0 x1 x2 x3 x4 x5 x6 xl
  obtain ⟨G0, hG⟩ : ∃ Q, v0.heap.size = Q := ⟨_, rfl⟩
  rw [hG] at hg ⊢
  clear hG
  have g0 : u0.cell? ⟨G0, 0, none⟩ = some (.int .i64 1) := hg.cell 0
  have g1 : u0.cell? ⟨G0, 1, none⟩ = some (.int .i64 0) := hg.cell 1
  have g6 : u0.cell? ⟨G0, 6, none⟩ = some (.int .i64 15) := hg.cell 6
  have q0 : u0.cell? ⟨Q, 0, none⟩ = some (.int .i64 0) := HL.out.cell 0
  have q1 : u0.cell? ⟨Q, 1, none⟩ = some (.slice (some ⟨X, 0, none⟩) 4 cap) := HL.out.cell 1
  clear hg
  go_wp2_with fail
  go_quiet (fail)
  obtain ⟨v2, hv⟩ : ∃ W, u0.drewN nq = W := ⟨_, rfl⟩
  replace HB := Lib.hid (below_drewN HB.out nq)
  replace HX : Hid (PoAt (u0.drewN nq) X) := Lib.hid HX.out
  replace HL := Lib.hid (HL.out.drewN nq)
  rw [hv] at HB HX HL ⊢
  clear hv g0 g1 g6 q0 q1
  go_wp2_with fail
  rw [rounds_succ]
  have x0 : v2.cell? ⟨X, 7, none⟩ = some (.int .i64 2) := HX.out.1 7 (by omega)
  have x1 : v2.cell? ⟨X, 8, none⟩ = some (.int .i64 0) := HX.out.1 8 (by omega)
  have x2 : v2.cell? ⟨X, 9, none⟩ = some (.int .i64 1) := HX.out.1 9 (by omega)
  have x3 : v2.cell? ⟨X, 10, none⟩ = some (.int .i64 1) := HX.out.1 10 (by omega)
  have x4 : v2.cell? ⟨X, 11, none⟩ = some (.int .i64 2) := HX.out.1 11 (by omega)
  have x5 : v2.cell? ⟨X, 12, none⟩ = some (.int .i64 7) := HX.out.1 12 (by omega)
  have x6 : v2.cell? ⟨X, 13, none⟩ = some (.int .i64 15) := HX.out.1 13 (by omega)
  have xl := HX.out.2
  go_wp2_with fail
  refine (lvalid_p1 _).mono ?_
  rintro e u1 ⟨rfl, hb⟩
  have hb1 : Below v2.heap.size v2 u1 := ((Below.refl _ _).alloc (Nat.le_refl _) _).trans (hb.mono (by simp))
  have hg : Has u1 v2.heap.size #[.int .i64 2, .int .i64 0, .int .i64 1, .int .i64 1, .int .i64 2, .int .i64 7, .int .i64 15] 101 := (Has.new v2 _ _).below hb (by simp)
  replace HB := Lib.hid (HB.out.trans (hb1.mono HB.out.size))
  replace HX := Lib.hid (HX.out.below hb1)
  replace HL := Lib.hid (HL.out.below hb1 HL.out.lt)
  clear hb hb1 x0 x1 x2 x3 x4 x5 x6 xl
  obtain ⟨G1, hG⟩ : ∃ Q, v2.heap.size = Q := ⟨_, rfl⟩
  rw [hG] at hg ⊢
  clear hG
  have g0 : u1.cell? ⟨G1, 0, none⟩ = some (.int .i64 2) := hg.cell 0
  have g1 : u1.cell? ⟨G1, 1, none⟩ = some (.int .i64 0) := hg.cell 1
  have g6 : u1.cell? ⟨G1, 6, none⟩ = some (.int .i64 15) := hg.cell 6
  have q0 : u1.cell? ⟨Q, 0, none⟩ = some (.int .i64 0) := HL.out.cell 0
  have q1 : u1.cell? ⟨Q, 1, none⟩ = some (.slice (some ⟨X, 0, none⟩) 4 cap) := HL.out.cell 1
  have y0 : u1.cell? ⟨X, 0, none⟩ = some (.int .i64 1) := HX.out.1 0 (by omega)
  have y1 : u1.cell? ⟨X, 1, none⟩ = some (.int .i64 0) := HX.out.1 1 (by omega)
  have hw1 : IntKind.i64.wrap (1 - 1) = 0 := by decide
  have hw0 : IntKind.i64.wrap 0 = 0 := by decide
  clear hg
  go_wp2_with fail
  go_quiet (fail)
  obtain ⟨v4, hv⟩ : ∃ W, u1.drewN nq = W := ⟨_, rfl⟩
  replace HB := Lib.hid (below_drewN HB.out nq)
  replace HX : Hid (PoAt (u1.drewN nq) X) := Lib.hid HX.out
  replace HL := Lib.hid (HL.out.drewN nq)
  rw [hv] at HB HX HL ⊢
  clear hv g0 g1 g6 q0 q1 y0 y1 hw1 hw0
  go_wp2_with fail
  rw [rounds_succ]
  have x0 : v4.cell? ⟨X, 14, none⟩ = some (.int .i64 3) := HX.out.1 14 (by omega)
  have x1 : v4.cell? ⟨X, 15, none⟩ = some (.int .i64 0) := HX.out.1 15 (by omega)
  have x2 : v4.cell? ⟨X, 16, none⟩ = some (.int .i64 2) := HX.out.1 16 (by omega)
  have x3 : v4.cell? ⟨X, 17, none⟩ = some (.int .i64 0) := HX.out.1 17 (by omega)
  have x4 : v4.cell? ⟨X, 18, none⟩ = some (.int .i64 0) := HX.out.1 18 (by omega)
  have x5 : v4.cell? ⟨X, 19, none⟩ = some (.int .i64 7) := HX.out.1 19 (by omega)
  have x6 : v4.cell? ⟨X, 20, none⟩ = some (.int .i64 35) := HX.out.1 20 (by omega)
  have xl := HX.out.2
  go_wp2_with fail
  refine (lvalid_r0 _).mono ?_
  rintro e u2 ⟨rfl, hb⟩
  have hb1 : Below v4.heap.size v4 u2 := ((Below.refl _ _).alloc (Nat.le_refl _) _).trans (hb.mono (by simp))
  have hg : Has u2 v4.heap.size #[.int .i64 3, .int .i64 0, .int .i64 2, .int .i64 0, .int .i64 0, .int .i64 7, .int .i64 35] 101 := (Has.new v4 _ _).below hb (by simp)
  replace HB := Lib.hid (HB.out.trans (hb1.mono HB.out.size))
  replace HX := Lib.hid (HX.out.below hb1)
  replace HL := Lib.hid (HL.out.below hb1 HL.out.lt)
  clear hb hb1 x0 x1 x2 x3 x4 x5 x6 xl
  obtain ⟨G2, hG⟩ : ∃ Q, v4.heap.size = Q := ⟨_, rfl⟩
  rw [hG] at hg ⊢
  clear hG
  have g0 : u2.cell? ⟨G2, 0, none⟩ = some (.int .i64 3) := hg.cell 0
  have g1 : u2.cell? ⟨G2, 1, none⟩ = some (.int .i64 0) := hg.cell 1
  have g6 : u2.cell? ⟨G2, 6, none⟩ = some (.int .i64 35) := hg.cell 6
  have q0 : u2.cell? ⟨Q, 0, none⟩ = some (.int .i64 0) := HL.out.cell 0
  have q1 : u2.cell? ⟨Q, 1, none⟩ = some (.slice (some ⟨X, 0, none⟩) 4 cap) := HL.out.cell 1
  have y0 : u2.cell? ⟨X, 7, none⟩ = some (.int .i64 2) := HX.out.1 7 (by omega)
  have y1 : u2.cell? ⟨X, 8, none⟩ = some (.int .i64 0) := HX.out.1 8 (by omega)
  have hw1 : IntKind.i64.wrap (2 - 1) = 1 := by decide
  have hw0 : IntKind.i64.wrap 1 = 1 := by decide
  clear hg
  go_wp2_with fail
  go_quiet (fail)
  obtain ⟨v6, hv⟩ : ∃ W, u2.drewN nq = W := ⟨_, rfl⟩
  replace HB := Lib.hid (below_drewN HB.out nq)
  replace HX : Hid (PoAt (u2.drewN nq) X) := Lib.hid HX.out
  replace HL := Lib.hid (HL.out.drewN nq)
  rw [hv] at HB HX HL ⊢
  clear hv g0 g1 g6 q0 q1 y0 y1 hw1 hw0
  go_wp2_with fail
  rw [rounds_succ]
  have x0 : v6.cell? ⟨X, 21, none⟩ = some (.int .i64 4) := HX.out.1 21 (by omega)
  have x1 : v6.cell? ⟨X, 22, none⟩ = some (.int .i64 0) := HX.out.1 22 (by omega)
  have x2 : v6.cell? ⟨X, 23, none⟩ = some (.int .i64 2) := HX.out.1 23 (by omega)
  have x3 : v6.cell? ⟨X, 24, none⟩ = some (.int .i64 1) := HX.out.1 24 (by omega)
  have x4 : v6.cell? ⟨X, 25, none⟩ = some (.int .i64 2) := HX.out.1 25 (by omega)
  have x5 : v6.cell? ⟨X, 26, none⟩ = some (.int .i64 7) := HX.out.1 26 (by omega)
  have x6 : v6.cell? ⟨X, 27, none⟩ = some (.int .i64 35) := HX.out.1 27 (by omega)
  have xl := HX.out.2
  go_wp2_with fail
  refine (lvalid_r1 _).mono ?_
  rintro e u3 ⟨rfl, hb⟩
  have hb1 : Below v6.heap.size v6 u3 := ((Below.refl _ _).alloc (Nat.le_refl _) _).trans (hb.mono (by simp))
  have hg : Has u3 v6.heap.size #[.int .i64 4, .int .i64 0, .int .i64 2, .int .i64 1, .int .i64 2, .int .i64 7, .int .i64 35] 101 := (Has.new v6 _ _).below hb (by simp)
  replace HB := Lib.hid (HB.out.trans (hb1.mono HB.out.size))
  replace HX := Lib.hid (HX.out.below hb1)
  replace HL := Lib.hid (HL.out.below hb1 HL.out.lt)
  clear hb hb1 x0 x1 x2 x3 x4 x5 x6 xl
  obtain ⟨G3, hG⟩ : ∃ Q, v6.heap.size = Q := ⟨_, rfl⟩
  rw [hG] at hg ⊢
  clear hG
  have g0 : u3.cell? ⟨G3, 0, none⟩ = some (.int .i64 4) := hg.cell 0
  have g1 : u3.cell? ⟨G3, 1, none⟩ = some (.int .i64 0) := hg.cell 1
  have g6 : u3.cell? ⟨G3, 6, none⟩ = some (.int .i64 35) := hg.cell 6
  have q0 : u3.cell? ⟨Q, 0, none⟩ = some (.int .i64 0) := HL.out.cell 0
  have q1 : u3.cell? ⟨Q, 1, none⟩ = some (.slice (some ⟨X, 0, none⟩) 4 cap) := HL.out.cell 1
  have y0 : u3.cell? ⟨X, 14, none⟩ = some (.int .i64 3) := HX.out.1 14 (by omega)
  have y1 : u3.cell? ⟨X, 15, none⟩ = some (.int .i64 0) := HX.out.1 15 (by omega)
  have hw1 : IntKind.i64.wrap (3 - 1) = 2 := by decide
  have hw0 : IntKind.i64.wrap 2 = 2 := by decide
  clear hg
  go_wp2_with fail
  go_quiet (fail)
  obtain ⟨v8, hv⟩ : ∃ W, u3.drewN nq = W := ⟨_, rfl⟩
  replace HB := Lib.hid (below_drewN HB.out nq)
  replace HX : Hid (PoAt (u3.drewN nq) X) := Lib.hid HX.out
  replace HL := Lib.hid (HL.out.drewN nq)
  rw [hv] at HB HX HL ⊢
  clear hv g0 g1 g6 q0 q1 y0 y1 hw1 hw0
  go_wp2_with fail
  rw [rounds_succ]
  go_wp2_with fail
  go_ret
  exact ⟨rfl, HB.out⟩
end Go.Proofs.YtbeikfopneeodaaGreat
namespace Go.Proofs.YtbeikfopneeodaaGreat
open Go.RowKit
set_option linter.unusedVariables false

/-- a ledger with no posting -/
def led0 : Array Value := #[.int .i64 0, .slice none 0 0]
set_option maxRecDepth 100000 in
theorem led_info0 : (Tryz.prog.info? 64).map (·.size) = some 2 := by kernel_rfl

set_option maxRecDepth 100000 in
set_option maxHeartbeats 1000000 in
theorem totals_nil (w : World) : Calls Tryz.prog 98 #[.agg #[.int .i64 0, .slice none 0 0], .int .i64 1] w (NonePost w 0) := by
  have hb0 : Below w.heap.size w (w.alloc (.cells #[.int .i64 0, .slice none 0 0] 64)) := (Below.refl _ _).alloc (Nat.le_refl _) _
  have HX := Lib.hid (Has.new w #[.int .i64 0, .slice none 0 0] 64)
  go_enter Tryz.func98, Tryz.ntmps98
  go_wp2_with fail
  refine (lval_nil _).mono ?_
  rintro e w1 ⟨rfl, hb⟩
  have HB := Lib.hid (hb0.trans (hb.mono hb0.size))
  replace HX := Lib.hid (HX.out.below hb (by simp))
  clear hb hb0
  obtain ⟨P, hP⟩ : ∃ Q, w.heap.size = Q := ⟨_, rfl⟩
  rw [hP] at HX ⊢
  clear hP
  have x0 : w1.cell? ⟨P, 0, none⟩ = some (.int .i64 0) := HX.out.cell 0
  have x1 : w1.cell? ⟨P, 1, none⟩ = some (.slice none 0 0) := HX.out.cell 1
  have hw1 : IntKind.i64.wrap (0 + 1) = 1 := by decide
  go_wp2_with fail
  refine wp_loop_rounds 1 ?_
  rw [rounds_succ]
  go_wp2_with fail
  refine (collect_zero _).mono ?_
  rintro e w2 ⟨Y, rfl, hy, hyb, hb⟩
  have HZ : Hid (NonePost w 0 (.returned (.tuple #[.slice (some ⟨Y, 0, none⟩) 0 0, .int .i64 0])) w2) := Lib.hid ⟨Y, rfl, hy, by have := HB.out.size; omega, HB.out.trans (hb.mono HB.out.size)⟩
  clear hy hyb hb x0 x1 hw1
  go_wp2_with fail
  go_ret2
  exact HZ.out

set_option maxRecDepth 100000 in
set_option maxHeartbeats 1000000 in
theorem lclone_nil (w : World) : Calls Tryz.prog 99 #[.agg #[.int .i64 0, .slice none 0 0]] w fun e w' => e = .returned (.agg #[.int .i64 0, .slice none 0 0]) ∧ Below w.heap.size w w' := by
  have happ : ∀ (ty : TypeId) (w : World), (Builtin.append_ #[62, 62] ty #[.slice none 0 0, .slice none 0 0]).run Tryz.prog w = .ok (.slice none 0 0) w := fun ty w => by kernel_rfl
  go_enter Tryz.func99, Tryz.ntmps99
  go_wp2_with fail
  go_region
  go_wp2_with fail
  refine bodyPost_ret (results_cell rfl _ _ (w.heap.size + 1) _ #[.int .i64 0, .slice none 0 0] _ _ ?_ (Has.drew (Has.new' _ _ _ _ (by simp))) Tryz.underlying64 rfl led_info0) rfl ?_
  · rfl
  exact ⟨rfl, (by (repeat' (first | (with_reducible exact Below.refl _ _) | (with_reducible refine Below.setCell ?_ ?_ _) | (with_reducible refine below_drewN ?_ _) | (with_reducible refine Below.drew ?_) | (with_reducible refine Below.alloc ?_ ?_ _))) <;> (first | omega | (simp <;> omega)))⟩
end Go.Proofs.YtbeikfopneeodaaGreat
