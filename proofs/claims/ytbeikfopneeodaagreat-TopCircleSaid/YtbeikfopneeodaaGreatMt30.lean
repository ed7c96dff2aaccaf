/- ledger.Post of the four entries of the example to a ledger with no posting (printed by wip/gen/tdi.py). -/
import Derived.Test.YtbeikfopneeodaaGreatMt27
import Derived.Test.YtbeikfopneeodaaGreatMt29
namespace Go.Proofs.YtbeikfopneeodaaGreat
open Go.RowKit
set_option linter.unusedVariables false

set_option maxRecDepth 100000 in
theorem mk_po4 (w : World) : (Instr.makeSlice 62 (.int .i64 4) (.int .i64 4)).run Tryz.prog w = .ok (.slice (some ⟨w.heap.size, 0, none⟩) 4 4) (w.alloc (.cells #[.int .i64 0, .int .i64 0, .int .i64 0, .int .i64 0, .int .i64 0, .int .i64 0, .int .i64 0, .int .i64 0, .int .i64 0, .int .i64 0, .int .i64 0, .int .i64 0, .int .i64 0, .int .i64 0, .int .i64 0, .int .i64 0, .int .i64 0, .int .i64 0, .int .i64 0, .int .i64 0, .int .i64 0, .int .i64 0, .int .i64 0, .int .i64 0, .int .i64 0, .int .i64 0, .int .i64 0, .int .i64 0] 101)) := by kernel_rfl
theorem EnAt.leaves {w w' : World} {X : Nat} {l : List Nat} {T : Nat → Prop} (h : EnAt w X l) (hl : Leaves T w w') (hn : ¬ T X) : EnAt w' X l :=
  ⟨fun j hj => (cell_leaves hl h.2 hn).trans (h.1 j hj), Nat.lt_of_lt_of_le h.2 hl.size⟩
theorem PoAt.leaves {w w' : World} {X : Nat} {T : Nat → Prop} (h : PoAt w X) (hl : Leaves T w w') (hn : ¬ T X) : PoAt w' X :=
  ⟨fun j hj => (cell_leaves hl h.2 hn).trans (h.1 j hj), Nat.lt_of_lt_of_le h.2 hl.size⟩
theorem post_app {w w' : World} {base : Nat} {v : Value} {xs : List Value} (h : w'.ownsRow base 101 7 v 4 xs) (hx : ∀ j, j < 28 → xs[j]? = some (poL[j]!)) (hg : w.grownBy w' none) (hb : v.ownBlock = none ∨ ∃ k, v.ownBlock = some k ∧ w.heap.size ≤ k) : ∃ g cp, v = .slice (some ⟨g, 0, none⟩) 4 cp ∧ PoAt w' g ∧ Below w.heap.size w w' ∧ w.heap.size ≤ g := by
  rcases Own.made (F := fun j => poL[j]!) h hx with ⟨_, h0⟩ | ⟨g, cp, rfl, ho⟩
  · omega
  · refine ⟨g, cp, rfl, ⟨fun j hj => ho.cell hj, ho.lt⟩, (Below.refl _ _).grown hg (Nat.le_refl _) (fun k hk => by cases hk), ?_⟩
    rcases hb with h | ⟨k, h1, h2⟩
    · cases h
    · injection h1 with h1
      subst h1
      exact h2
def PostPost (w : World) (e : Ending) (w' : World) : Prop := ∃ Y cap, e = .returned (.tuple #[.agg #[.int .i64 0, .slice (some ⟨Y, 0, none⟩) 4 cap], .int .i64 0]) ∧ PoAt w' Y ∧ w.heap.size ≤ Y ∧ Below w.heap.size w w'

set_option maxRecDepth 100000 in
set_option maxHeartbeats 4000000 in
theorem post_aw (X cap : Nat) (w : World) (h : EnAt w X [0, 1, 2, 3]) : Calls Tryz.prog 69 #[.agg #[.int .i64 0, .slice none 0 0], .slice (some ⟨X, 0, none⟩) 4 cap] w (PostPost w) := by
  have HX0 := Lib.hid h
  clear h
  go_enter Tryz.func69, Tryz.ntmps69
  go_upto_region 1 with (fail)
  obtain ⟨v0, hv⟩ : ∃ W, (w.alloc (.cells #[.int .i64 0, .slice none 0 0] 64)).alloc (.cells #[.int .i64 0, .slice none 0 0] 64) = W := ⟨_, rfl⟩
  have hb : Below w.heap.size w v0 := by rw [← hv]; exact (by (repeat' (first | (with_reducible exact Below.refl _ _) | (with_reducible refine Below.setCell ?_ ?_ _) | (with_reducible refine below_drewN ?_ _) | (with_reducible refine Below.drew ?_) | (with_reducible refine Below.alloc ?_ ?_ _))) <;> (first | omega | (simp <;> omega)))
  have HP : Hid (Has v0 w.heap.size led0 64) := Lib.hid (by rw [← hv]; exact (Has.new _ _ _).alloc _)
  have HR : Hid (Has v0 (w.heap.size + 1) led0 64) := Lib.hid (by rw [← hv]; exact Has.new' _ _ _ _ (by simp))
  have HZ : Hid (v0.heap.size = w.heap.size + 2) := Lib.hid (by rw [← hv]; simp)
  have HB := Lib.hid hb
  rw [hv]
  clear hb hv
  obtain ⟨P, hP⟩ : ∃ Q, w.heap.size = Q := ⟨_, rfl⟩
  obtain ⟨R, hR⟩ : ∃ Q, w.heap.size + 1 = Q := ⟨_, rfl⟩
  have HN0 : Hid (w.heap.size = P ∧ R = P + 1 ∧ P + 2 = v0.heap.size) := Lib.hid (by have := HZ.out; omega)
  rw [hR] at HR ⊢
  rw [hP] at HP ⊢
  clear hP hR HZ
  have p0 : v0.cell? ⟨P, 0, none⟩ = some (.int .i64 0) := HP.out.cell 0
  have p1 : v0.cell? ⟨P, 1, none⟩ = some (.slice none 0 0) := HP.out.cell 1
  go_wp2_with fail
  refine (lval_nil _).mono ?_
  rintro e w1 ⟨rfl, hb⟩
  replace HB := Lib.hid (HB.out.trans (hb.mono HB.out.size))
  replace HP := Lib.hid (HP.out.below hb HP.out.lt)
  replace HR := Lib.hid (HR.out.below hb HR.out.lt)
  have HN : Hid (w.heap.size = P ∧ R = P + 1 ∧ P + 2 ≤ w1.heap.size) := Lib.hid (by have := HN0.out; have := hb.size; omega)
  clear hb HN0 p0 p1
  have CC := Lib.hid (collect_four X cap w1 (HX0.out.below HB.out HX0.out.2))
  go_wp2_with fail
  refine CC.out.mono ?_
  rintro e w2 ⟨Z, cz, _, rfl, hz, hzb, hb⟩
  replace HB := Lib.hid (HB.out.trans (hb.mono HB.out.size))
  replace HP := Lib.hid (HP.out.below hb HP.out.lt)
  replace HR := Lib.hid (HR.out.below hb HR.out.lt)
  have HZ := Lib.hid hz
  replace HN : Hid (w.heap.size = P ∧ R = P + 1 ∧ P + 2 ≤ w2.heap.size ∧ P + 2 ≤ Z ∧ Z < w2.heap.size) := Lib.hid (by have := HN.out; have := hb.size; have := hz.2; omega)
  clear hb hz hzb CC
  have p0 : w2.cell? ⟨P, 0, none⟩ = some (.int .i64 0) := HP.out.cell 0
  have p1 : w2.cell? ⟨P, 1, none⟩ = some (.slice none 0 0) := HP.out.cell 1
  have hmk := mk_po4
  have hw1 : IntKind.i64.wrap (0 + 4) = 4 := by decide
  go_upto_region 16 with (fail)
  clear hmk hw1 p0 p1
  have hbk : Below w2.heap.size w2 (w2.alloc (.cells #[.int .i64 0, .int .i64 0, .int .i64 0, .int .i64 0, .int .i64 0, .int .i64 0, .int .i64 0, .int .i64 0, .int .i64 0, .int .i64 0, .int .i64 0, .int .i64 0, .int .i64 0, .int .i64 0, .int .i64 0, .int .i64 0, .int .i64 0, .int .i64 0, .int .i64 0, .int .i64 0, .int .i64 0, .int .i64 0, .int .i64 0, .int .i64 0, .int .i64 0, .int .i64 0, .int .i64 0, .int .i64 0] 101)) := (Below.refl _ _).alloc (Nat.le_refl _) _
  have hk : Has (w2.alloc (.cells #[.int .i64 0, .int .i64 0, .int .i64 0, .int .i64 0, .int .i64 0, .int .i64 0, .int .i64 0, .int .i64 0, .int .i64 0, .int .i64 0, .int .i64 0, .int .i64 0, .int .i64 0, .int .i64 0, .int .i64 0, .int .i64 0, .int .i64 0, .int .i64 0, .int .i64 0, .int .i64 0, .int .i64 0, .int .i64 0, .int .i64 0, .int .i64 0, .int .i64 0, .int .i64 0, .int .i64 0, .int .i64 0] 101)) w2.heap.size #[.int .i64 0, .int .i64 0, .int .i64 0, .int .i64 0, .int .i64 0, .int .i64 0, .int .i64 0, .int .i64 0, .int .i64 0, .int .i64 0, .int .i64 0, .int .i64 0, .int .i64 0, .int .i64 0, .int .i64 0, .int .i64 0, .int .i64 0, .int .i64 0, .int .i64 0, .int .i64 0, .int .i64 0, .int .i64 0, .int .i64 0, .int .i64 0, .int .i64 0, .int .i64 0, .int .i64 0, .int .i64 0] 101 := Has.new _ _ _
  replace HP := Lib.hid (HP.out.below hbk HP.out.lt)
  replace HR := Lib.hid (HR.out.below hbk HR.out.lt)
  replace HZ := Lib.hid (HZ.out.below hbk HZ.out.2)
  replace HB := Lib.hid (HB.out.trans (hbk.mono HB.out.size))
  obtain ⟨v0, hw⟩ : ∃ W, w2.alloc (.cells #[.int .i64 0, .int .i64 0, .int .i64 0, .int .i64 0, .int .i64 0, .int .i64 0, .int .i64 0, .int .i64 0, .int .i64 0, .int .i64 0, .int .i64 0, .int .i64 0, .int .i64 0, .int .i64 0, .int .i64 0, .int .i64 0, .int .i64 0, .int .i64 0, .int .i64 0, .int .i64 0, .int .i64 0, .int .i64 0, .int .i64 0, .int .i64 0, .int .i64 0, .int .i64 0, .int .i64 0, .int .i64 0] 101) = W := ⟨_, rfl⟩
  obtain ⟨Y, hY⟩ : ∃ Q, w2.heap.size = Q := ⟨_, rfl⟩
  replace HN : Hid (w.heap.size = P ∧ R = P + 1 ∧ P + 2 ≤ Z ∧ Z < Y ∧ Y < v0.heap.size) := Lib.hid (by have := HN.out; have := hk.lt; rw [← hw]; omega)
  rw [hw] at hk HP HR HZ HB ⊢
  rw [hY] at hk ⊢
  have HY := Lib.hid hk
  clear hw hY hk hbk
  go_wp2_with fail
  refine wp_loop_rounds 5 ?_
  rw [rounds_succ]
  have z0 : v0.cell? ⟨Z, 0, none⟩ = some (.int .i64 1) := HZ.out.1 0 (by simp)
  have z1 : v0.cell? ⟨Z, 1, none⟩ = some (.int .i64 0) := HZ.out.1 1 (by simp)
  have z2 : v0.cell? ⟨Z, 2, none⟩ = some (.int .i64 0) := HZ.out.1 2 (by simp)
  have z3 : v0.cell? ⟨Z, 3, none⟩ = some (.int .i64 7) := HZ.out.1 3 (by simp)
  have z4 : v0.cell? ⟨Z, 4, none⟩ = some (.int .i64 15) := HZ.out.1 4 (by simp)
  have y0 : v0.cell? ⟨Y, 0, none⟩ = some (.int .i64 0) := HY.out.cell 0
  have yf0 : v0.frozen? ⟨Y, 0, none⟩ = false := HY.out.free _
  have y1 : v0.cell? ⟨Y, 1, none⟩ = some (.int .i64 0) := HY.out.cell 1
  have yf1 : v0.frozen? ⟨Y, 1, none⟩ = false := HY.out.free _
  have y2 : v0.cell? ⟨Y, 2, none⟩ = some (.int .i64 0) := HY.out.cell 2
  have yf2 : v0.frozen? ⟨Y, 2, none⟩ = false := HY.out.free _
  have y3 : v0.cell? ⟨Y, 3, none⟩ = some (.int .i64 0) := HY.out.cell 3
  have yf3 : v0.frozen? ⟨Y, 3, none⟩ = false := HY.out.free _
  have y4 : v0.cell? ⟨Y, 4, none⟩ = some (.int .i64 0) := HY.out.cell 4
  have yf4 : v0.frozen? ⟨Y, 4, none⟩ = false := HY.out.free _
  have y5 : v0.cell? ⟨Y, 5, none⟩ = some (.int .i64 0) := HY.out.cell 5
  have yf5 : v0.frozen? ⟨Y, 5, none⟩ = false := HY.out.free _
  have y6 : v0.cell? ⟨Y, 6, none⟩ = some (.int .i64 0) := HY.out.cell 6
  have yf6 : v0.frozen? ⟨Y, 6, none⟩ = false := HY.out.free _
  have p0 : v0.cell? ⟨P, 0, none⟩ = some (.int .i64 0) := HP.out.cell 0
  have hyl := HY.out.lt
  have hzl := HZ.out.2
  have hpl := HP.out.lt
  have hw0 : IntKind.i64.wrap (0 + 1) = 1 := by decide
  have hx0 : IntKind.i64.wrap (1 + 0) = 1 := by decide
  go_upto_region 20 with (fail)
  clear z0 z1 z2 z3 z4 y0 y1 y2 y3 y4 y5 y6 yf0 yf1 yf2 yf3 yf4 yf5 yf6 p0 hyl hzl hpl hw0 hx0
  have hl : Leaves (fun k => k = Y) v0 ((((((((v0.setCell ⟨Y, 0, none⟩ (.int .i64 1)).setCell ⟨Y, 1, none⟩ (.int .i64 0)).setCell ⟨Y, 2, none⟩ (.int .i64 1)).setCell ⟨Y, 3, none⟩ (.int .i64 0)).setCell ⟨Y, 4, none⟩ (.int .i64 0)).setCell ⟨Y, 5, none⟩ (.int .i64 7)).setCell ⟨Y, 6, none⟩ (.int .i64 15)).alloc (.cells #[.int .i64 1, .int .i64 0, .int .i64 0, .int .i64 7, .int .i64 15] 99)) := ((((((((Leaves.refl (fun k => k = Y) _).at _ _).at _ _).at _ _).at _ _).at _ _).at _ _).at _ _).alloc _
  have hy : Has ((((((((v0.setCell ⟨Y, 0, none⟩ (.int .i64 1)).setCell ⟨Y, 1, none⟩ (.int .i64 0)).setCell ⟨Y, 2, none⟩ (.int .i64 1)).setCell ⟨Y, 3, none⟩ (.int .i64 0)).setCell ⟨Y, 4, none⟩ (.int .i64 0)).setCell ⟨Y, 5, none⟩ (.int .i64 7)).setCell ⟨Y, 6, none⟩ (.int .i64 15)).alloc (.cells #[.int .i64 1, .int .i64 0, .int .i64 0, .int .i64 7, .int .i64 15] 99)) Y #[.int .i64 1, .int .i64 0, .int .i64 1, .int .i64 0, .int .i64 0, .int .i64 7, .int .i64 15, .int .i64 0, .int .i64 0, .int .i64 0, .int .i64 0, .int .i64 0, .int .i64 0, .int .i64 0, .int .i64 0, .int .i64 0, .int .i64 0, .int .i64 0, .int .i64 0, .int .i64 0, .int .i64 0, .int .i64 0, .int .i64 0, .int .i64 0, .int .i64 0, .int .i64 0, .int .i64 0, .int .i64 0] 101 := (((((((HY.out.put 0 (.int .i64 1)).put 1 (.int .i64 0)).put 2 (.int .i64 1)).put 3 (.int .i64 0)).put 4 (.int .i64 0)).put 5 (.int .i64 7)).put 6 (.int .i64 15)).alloc _
  obtain ⟨v1, hw⟩ : ∃ W, (((((((v0.setCell ⟨Y, 0, none⟩ (.int .i64 1)).setCell ⟨Y, 1, none⟩ (.int .i64 0)).setCell ⟨Y, 2, none⟩ (.int .i64 1)).setCell ⟨Y, 3, none⟩ (.int .i64 0)).setCell ⟨Y, 4, none⟩ (.int .i64 0)).setCell ⟨Y, 5, none⟩ (.int .i64 7)).setCell ⟨Y, 6, none⟩ (.int .i64 15)).alloc (.cells #[.int .i64 1, .int .i64 0, .int .i64 0, .int .i64 7, .int .i64 15] 99) = W := ⟨_, rfl⟩
  rw [hw] at hl hy ⊢
  replace HY := Lib.hid hy
  replace HZ := Lib.hid (HZ.out.leaves hl (by have := HN.out; show ¬ Z = Y; omega))
  replace HP := Lib.hid (HP.out.leaves hl (by have := HN.out; show ¬ P = Y; omega))
  replace HR := Lib.hid (HR.out.leaves hl (by have := HN.out; show ¬ R = Y; omega))
  replace HB := Lib.hid (HB.out.trans (hl.new_or (by have := HN.out; omega) HB.out.size))
  clear hw hl hy
  go_wp2_with fail
  rw [rounds_succ]
  have z0 : v1.cell? ⟨Z, 5, none⟩ = some (.int .i64 1) := HZ.out.1 5 (by simp)
  have z1 : v1.cell? ⟨Z, 6, none⟩ = some (.int .i64 1) := HZ.out.1 6 (by simp)
  have z2 : v1.cell? ⟨Z, 7, none⟩ = some (.int .i64 2) := HZ.out.1 7 (by simp)
  have z3 : v1.cell? ⟨Z, 8, none⟩ = some (.int .i64 7) := HZ.out.1 8 (by simp)
  have z4 : v1.cell? ⟨Z, 9, none⟩ = some (.int .i64 15) := HZ.out.1 9 (by simp)
  have y0 : v1.cell? ⟨Y, 7, none⟩ = some (.int .i64 0) := HY.out.cell 7
  have yf0 : v1.frozen? ⟨Y, 7, none⟩ = false := HY.out.free _
  have y1 : v1.cell? ⟨Y, 8, none⟩ = some (.int .i64 0) := HY.out.cell 8
  have yf1 : v1.frozen? ⟨Y, 8, none⟩ = false := HY.out.free _
  have y2 : v1.cell? ⟨Y, 9, none⟩ = some (.int .i64 0) := HY.out.cell 9
  have yf2 : v1.frozen? ⟨Y, 9, none⟩ = false := HY.out.free _
  have y3 : v1.cell? ⟨Y, 10, none⟩ = some (.int .i64 0) := HY.out.cell 10
  have yf3 : v1.frozen? ⟨Y, 10, none⟩ = false := HY.out.free _
  have y4 : v1.cell? ⟨Y, 11, none⟩ = some (.int .i64 0) := HY.out.cell 11
  have yf4 : v1.frozen? ⟨Y, 11, none⟩ = false := HY.out.free _
  have y5 : v1.cell? ⟨Y, 12, none⟩ = some (.int .i64 0) := HY.out.cell 12
  have yf5 : v1.frozen? ⟨Y, 12, none⟩ = false := HY.out.free _
  have y6 : v1.cell? ⟨Y, 13, none⟩ = some (.int .i64 0) := HY.out.cell 13
  have yf6 : v1.frozen? ⟨Y, 13, none⟩ = false := HY.out.free _
  have p0 : v1.cell? ⟨P, 0, none⟩ = some (.int .i64 0) := HP.out.cell 0
  have hyl := HY.out.lt
  have hzl := HZ.out.2
  have hpl := HP.out.lt
  have hw1 : IntKind.i64.wrap (0 + 1) = 1 := by decide
  have hx1 : IntKind.i64.wrap (1 + 1) = 2 := by decide
  go_upto_region 20 with (fail)
  clear z0 z1 z2 z3 z4 y0 y1 y2 y3 y4 y5 y6 yf0 yf1 yf2 yf3 yf4 yf5 yf6 p0 hyl hzl hpl hw1 hx1
  have hl : Leaves (fun k => k = Y) v1 ((((((((v1.setCell ⟨Y, 7, none⟩ (.int .i64 2)).setCell ⟨Y, 8, none⟩ (.int .i64 0)).setCell ⟨Y, 9, none⟩ (.int .i64 1)).setCell ⟨Y, 10, none⟩ (.int .i64 1)).setCell ⟨Y, 11, none⟩ (.int .i64 2)).setCell ⟨Y, 12, none⟩ (.int .i64 7)).setCell ⟨Y, 13, none⟩ (.int .i64 15)).alloc (.cells #[.int .i64 1, .int .i64 1, .int .i64 2, .int .i64 7, .int .i64 15] 99)) := ((((((((Leaves.refl (fun k => k = Y) _).at _ _).at _ _).at _ _).at _ _).at _ _).at _ _).at _ _).alloc _
  have hy : Has ((((((((v1.setCell ⟨Y, 7, none⟩ (.int .i64 2)).setCell ⟨Y, 8, none⟩ (.int .i64 0)).setCell ⟨Y, 9, none⟩ (.int .i64 1)).setCell ⟨Y, 10, none⟩ (.int .i64 1)).setCell ⟨Y, 11, none⟩ (.int .i64 2)).setCell ⟨Y, 12, none⟩ (.int .i64 7)).setCell ⟨Y, 13, none⟩ (.int .i64 15)).alloc (.cells #[.int .i64 1, .int .i64 1, .int .i64 2, .int .i64 7, .int .i64 15] 99)) Y #[.int .i64 1, .int .i64 0, .int .i64 1, .int .i64 0, .int .i64 0, .int .i64 7, .int .i64 15, .int .i64 2, .int .i64 0, .int .i64 1, .int .i64 1, .int .i64 2, .int .i64 7, .int .i64 15, .int .i64 0, .int .i64 0, .int .i64 0, .int .i64 0, .int .i64 0, .int .i64 0, .int .i64 0, .int .i64 0, .int .i64 0, .int .i64 0, .int .i64 0, .int .i64 0, .int .i64 0, .int .i64 0] 101 := (((((((HY.out.put 7 (.int .i64 2)).put 8 (.int .i64 0)).put 9 (.int .i64 1)).put 10 (.int .i64 1)).put 11 (.int .i64 2)).put 12 (.int .i64 7)).put 13 (.int .i64 15)).alloc _
  obtain ⟨v2, hw⟩ : ∃ W, (((((((v1.setCell ⟨Y, 7, none⟩ (.int .i64 2)).setCell ⟨Y, 8, none⟩ (.int .i64 0)).setCell ⟨Y, 9, none⟩ (.int .i64 1)).setCell ⟨Y, 10, none⟩ (.int .i64 1)).setCell ⟨Y, 11, none⟩ (.int .i64 2)).setCell ⟨Y, 12, none⟩ (.int .i64 7)).setCell ⟨Y, 13, none⟩ (.int .i64 15)).alloc (.cells #[.int .i64 1, .int .i64 1, .int .i64 2, .int .i64 7, .int .i64 15] 99) = W := ⟨_, rfl⟩
  rw [hw] at hl hy ⊢
  replace HY := Lib.hid hy
  replace HZ := Lib.hid (HZ.out.leaves hl (by have := HN.out; show ¬ Z = Y; omega))
  replace HP := Lib.hid (HP.out.leaves hl (by have := HN.out; show ¬ P = Y; omega))
  replace HR := Lib.hid (HR.out.leaves hl (by have := HN.out; show ¬ R = Y; omega))
  replace HB := Lib.hid (HB.out.trans (hl.new_or (by have := HN.out; omega) HB.out.size))
  clear hw hl hy
  go_wp2_with fail
  rw [rounds_succ]
  have z0 : v2.cell? ⟨Z, 10, none⟩ = some (.int .i64 2) := HZ.out.1 10 (by simp)
  have z1 : v2.cell? ⟨Z, 11, none⟩ = some (.int .i64 0) := HZ.out.1 11 (by simp)
  have z2 : v2.cell? ⟨Z, 12, none⟩ = some (.int .i64 0) := HZ.out.1 12 (by simp)
  have z3 : v2.cell? ⟨Z, 13, none⟩ = some (.int .i64 7) := HZ.out.1 13 (by simp)
  have z4 : v2.cell? ⟨Z, 14, none⟩ = some (.int .i64 35) := HZ.out.1 14 (by simp)
  have y0 : v2.cell? ⟨Y, 14, none⟩ = some (.int .i64 0) := HY.out.cell 14
  have yf0 : v2.frozen? ⟨Y, 14, none⟩ = false := HY.out.free _
  have y1 : v2.cell? ⟨Y, 15, none⟩ = some (.int .i64 0) := HY.out.cell 15
  have yf1 : v2.frozen? ⟨Y, 15, none⟩ = false := HY.out.free _
  have y2 : v2.cell? ⟨Y, 16, none⟩ = some (.int .i64 0) := HY.out.cell 16
  have yf2 : v2.frozen? ⟨Y, 16, none⟩ = false := HY.out.free _
  have y3 : v2.cell? ⟨Y, 17, none⟩ = some (.int .i64 0) := HY.out.cell 17
  have yf3 : v2.frozen? ⟨Y, 17, none⟩ = false := HY.out.free _
  have y4 : v2.cell? ⟨Y, 18, none⟩ = some (.int .i64 0) := HY.out.cell 18
  have yf4 : v2.frozen? ⟨Y, 18, none⟩ = false := HY.out.free _
  have y5 : v2.cell? ⟨Y, 19, none⟩ = some (.int .i64 0) := HY.out.cell 19
  have yf5 : v2.frozen? ⟨Y, 19, none⟩ = false := HY.out.free _
  have y6 : v2.cell? ⟨Y, 20, none⟩ = some (.int .i64 0) := HY.out.cell 20
  have yf6 : v2.frozen? ⟨Y, 20, none⟩ = false := HY.out.free _
  have p0 : v2.cell? ⟨P, 0, none⟩ = some (.int .i64 0) := HP.out.cell 0
  have hyl := HY.out.lt
  have hzl := HZ.out.2
  have hpl := HP.out.lt
  have hw2 : IntKind.i64.wrap (0 + 1) = 1 := by decide
  have hx2 : IntKind.i64.wrap (1 + 2) = 3 := by decide
  go_upto_region 20 with (fail)
  clear z0 z1 z2 z3 z4 y0 y1 y2 y3 y4 y5 y6 yf0 yf1 yf2 yf3 yf4 yf5 yf6 p0 hyl hzl hpl hw2 hx2
  have hl : Leaves (fun k => k = Y) v2 ((((((((v2.setCell ⟨Y, 14, none⟩ (.int .i64 3)).setCell ⟨Y, 15, none⟩ (.int .i64 0)).setCell ⟨Y, 16, none⟩ (.int .i64 2)).setCell ⟨Y, 17, none⟩ (.int .i64 0)).setCell ⟨Y, 18, none⟩ (.int .i64 0)).setCell ⟨Y, 19, none⟩ (.int .i64 7)).setCell ⟨Y, 20, none⟩ (.int .i64 35)).alloc (.cells #[.int .i64 2, .int .i64 0, .int .i64 0, .int .i64 7, .int .i64 35] 99)) := ((((((((Leaves.refl (fun k => k = Y) _).at _ _).at _ _).at _ _).at _ _).at _ _).at _ _).at _ _).alloc _
  have hy : Has ((((((((v2.setCell ⟨Y, 14, none⟩ (.int .i64 3)).setCell ⟨Y, 15, none⟩ (.int .i64 0)).setCell ⟨Y, 16, none⟩ (.int .i64 2)).setCell ⟨Y, 17, none⟩ (.int .i64 0)).setCell ⟨Y, 18, none⟩ (.int .i64 0)).setCell ⟨Y, 19, none⟩ (.int .i64 7)).setCell ⟨Y, 20, none⟩ (.int .i64 35)).alloc (.cells #[.int .i64 2, .int .i64 0, .int .i64 0, .int .i64 7, .int .i64 35] 99)) Y #[.int .i64 1, .int .i64 0, .int .i64 1, .int .i64 0, .int .i64 0, .int .i64 7, .int .i64 15, .int .i64 2, .int .i64 0, .int .i64 1, .int .i64 1, .int .i64 2, .int .i64 7, .int .i64 15, .int .i64 3, .int .i64 0, .int .i64 2, .int .i64 0, .int .i64 0, .int .i64 7, .int .i64 35, .int .i64 0, .int .i64 0, .int .i64 0, .int .i64 0, .int .i64 0, .int .i64 0, .int .i64 0] 101 := (((((((HY.out.put 14 (.int .i64 3)).put 15 (.int .i64 0)).put 16 (.int .i64 2)).put 17 (.int .i64 0)).put 18 (.int .i64 0)).put 19 (.int .i64 7)).put 20 (.int .i64 35)).alloc _
  obtain ⟨v3, hw⟩ : ∃ W, (((((((v2.setCell ⟨Y, 14, none⟩ (.int .i64 3)).setCell ⟨Y, 15, none⟩ (.int .i64 0)).setCell ⟨Y, 16, none⟩ (.int .i64 2)).setCell ⟨Y, 17, none⟩ (.int .i64 0)).setCell ⟨Y, 18, none⟩ (.int .i64 0)).setCell ⟨Y, 19, none⟩ (.int .i64 7)).setCell ⟨Y, 20, none⟩ (.int .i64 35)).alloc (.cells #[.int .i64 2, .int .i64 0, .int .i64 0, .int .i64 7, .int .i64 35] 99) = W := ⟨_, rfl⟩
  rw [hw] at hl hy ⊢
  replace HY := Lib.hid hy
  replace HZ := Lib.hid (HZ.out.leaves hl (by have := HN.out; show ¬ Z = Y; omega))
  replace HP := Lib.hid (HP.out.leaves hl (by have := HN.out; show ¬ P = Y; omega))
  replace HR := Lib.hid (HR.out.leaves hl (by have := HN.out; show ¬ R = Y; omega))
  replace HB := Lib.hid (HB.out.trans (hl.new_or (by have := HN.out; omega) HB.out.size))
  clear hw hl hy
  go_wp2_with fail
  rw [rounds_succ]
  have z0 : v3.cell? ⟨Z, 15, none⟩ = some (.int .i64 2) := HZ.out.1 15 (by simp)
  have z1 : v3.cell? ⟨Z, 16, none⟩ = some (.int .i64 1) := HZ.out.1 16 (by simp)
  have z2 : v3.cell? ⟨Z, 17, none⟩ = some (.int .i64 2) := HZ.out.1 17 (by simp)
  have z3 : v3.cell? ⟨Z, 18, none⟩ = some (.int .i64 7) := HZ.out.1 18 (by simp)
  have z4 : v3.cell? ⟨Z, 19, none⟩ = some (.int .i64 35) := HZ.out.1 19 (by simp)
  have y0 : v3.cell? ⟨Y, 21, none⟩ = some (.int .i64 0) := HY.out.cell 21
  have yf0 : v3.frozen? ⟨Y, 21, none⟩ = false := HY.out.free _
  have y1 : v3.cell? ⟨Y, 22, none⟩ = some (.int .i64 0) := HY.out.cell 22
  have yf1 : v3.frozen? ⟨Y, 22, none⟩ = false := HY.out.free _
  have y2 : v3.cell? ⟨Y, 23, none⟩ = some (.int .i64 0) := HY.out.cell 23
  have yf2 : v3.frozen? ⟨Y, 23, none⟩ = false := HY.out.free _
  have y3 : v3.cell? ⟨Y, 24, none⟩ = some (.int .i64 0) := HY.out.cell 24
  have yf3 : v3.frozen? ⟨Y, 24, none⟩ = false := HY.out.free _
  have y4 : v3.cell? ⟨Y, 25, none⟩ = some (.int .i64 0) := HY.out.cell 25
  have yf4 : v3.frozen? ⟨Y, 25, none⟩ = false := HY.out.free _
  have y5 : v3.cell? ⟨Y, 26, none⟩ = some (.int .i64 0) := HY.out.cell 26
  have yf5 : v3.frozen? ⟨Y, 26, none⟩ = false := HY.out.free _
  have y6 : v3.cell? ⟨Y, 27, none⟩ = some (.int .i64 0) := HY.out.cell 27
  have yf6 : v3.frozen? ⟨Y, 27, none⟩ = false := HY.out.free _
  have p0 : v3.cell? ⟨P, 0, none⟩ = some (.int .i64 0) := HP.out.cell 0
  have hyl := HY.out.lt
  have hzl := HZ.out.2
  have hpl := HP.out.lt
  have hw3 : IntKind.i64.wrap (0 + 1) = 1 := by decide
  have hx3 : IntKind.i64.wrap (1 + 3) = 4 := by decide
  go_upto_region 20 with (fail)
  clear z0 z1 z2 z3 z4 y0 y1 y2 y3 y4 y5 y6 yf0 yf1 yf2 yf3 yf4 yf5 yf6 p0 hyl hzl hpl hw3 hx3
  have hl : Leaves (fun k => k = Y) v3 ((((((((v3.setCell ⟨Y, 21, none⟩ (.int .i64 4)).setCell ⟨Y, 22, none⟩ (.int .i64 0)).setCell ⟨Y, 23, none⟩ (.int .i64 2)).setCell ⟨Y, 24, none⟩ (.int .i64 1)).setCell ⟨Y, 25, none⟩ (.int .i64 2)).setCell ⟨Y, 26, none⟩ (.int .i64 7)).setCell ⟨Y, 27, none⟩ (.int .i64 35)).alloc (.cells #[.int .i64 2, .int .i64 1, .int .i64 2, .int .i64 7, .int .i64 35] 99)) := ((((((((Leaves.refl (fun k => k = Y) _).at _ _).at _ _).at _ _).at _ _).at _ _).at _ _).at _ _).alloc _
  have hy : Has ((((((((v3.setCell ⟨Y, 21, none⟩ (.int .i64 4)).setCell ⟨Y, 22, none⟩ (.int .i64 0)).setCell ⟨Y, 23, none⟩ (.int .i64 2)).setCell ⟨Y, 24, none⟩ (.int .i64 1)).setCell ⟨Y, 25, none⟩ (.int .i64 2)).setCell ⟨Y, 26, none⟩ (.int .i64 7)).setCell ⟨Y, 27, none⟩ (.int .i64 35)).alloc (.cells #[.int .i64 2, .int .i64 1, .int .i64 2, .int .i64 7, .int .i64 35] 99)) Y #[.int .i64 1, .int .i64 0, .int .i64 1, .int .i64 0, .int .i64 0, .int .i64 7, .int .i64 15, .int .i64 2, .int .i64 0, .int .i64 1, .int .i64 1, .int .i64 2, .int .i64 7, .int .i64 15, .int .i64 3, .int .i64 0, .int .i64 2, .int .i64 0, .int .i64 0, .int .i64 7, .int .i64 35, .int .i64 4, .int .i64 0, .int .i64 2, .int .i64 1, .int .i64 2, .int .i64 7, .int .i64 35] 101 := (((((((HY.out.put 21 (.int .i64 4)).put 22 (.int .i64 0)).put 23 (.int .i64 2)).put 24 (.int .i64 1)).put 25 (.int .i64 2)).put 26 (.int .i64 7)).put 27 (.int .i64 35)).alloc _
  obtain ⟨v4, hw⟩ : ∃ W, (((((((v3.setCell ⟨Y, 21, none⟩ (.int .i64 4)).setCell ⟨Y, 22, none⟩ (.int .i64 0)).setCell ⟨Y, 23, none⟩ (.int .i64 2)).setCell ⟨Y, 24, none⟩ (.int .i64 1)).setCell ⟨Y, 25, none⟩ (.int .i64 2)).setCell ⟨Y, 26, none⟩ (.int .i64 7)).setCell ⟨Y, 27, none⟩ (.int .i64 35)).alloc (.cells #[.int .i64 2, .int .i64 1, .int .i64 2, .int .i64 7, .int .i64 35] 99) = W := ⟨_, rfl⟩
  rw [hw] at hl hy ⊢
  replace HY := Lib.hid hy
  replace HZ := Lib.hid (HZ.out.leaves hl (by have := HN.out; show ¬ Z = Y; omega))
  replace HP := Lib.hid (HP.out.leaves hl (by have := HN.out; show ¬ P = Y; omega))
  replace HR := Lib.hid (HR.out.leaves hl (by have := HN.out; show ¬ R = Y; omega))
  replace HB := Lib.hid (HB.out.trans (hl.new_or (by have := HN.out; omega) HB.out.size))
  clear hw hl hy
  go_wp2_with fail
  rw [rounds_succ]
  have p0 : v4.cell? ⟨P, 0, none⟩ = some (.int .i64 0) := HP.out.cell 0
  have p1 : v4.cell? ⟨P, 1, none⟩ = some (.slice none 0 0) := HP.out.cell 1
  go_wp2_with fail
  refine (lclone_nil _).mono ?_
  rintro e w5 ⟨rfl, hb⟩
  replace HB := Lib.hid (HB.out.trans (hb.mono HB.out.size))
  replace HR := Lib.hid (HR.out.below hb HR.out.lt)
  replace HY := Lib.hid (HY.out.below hb HY.out.lt)
  have HN2 : Hid (w.heap.size ≤ R ∧ R < Y ∧ Y < w5.heap.size ∧ w.heap.size = P) := Lib.hid (by have := HN.out; have := HY.out.lt; omega)
  clear hb p0 p1 HN HP HZ
  go_upto_region 22 with (fail)
  have hbk : Below w5.heap.size w5 (w5.alloc (.cells #[.int .i64 0, .slice none 0 0] 64)) := (Below.refl _ _).alloc (Nat.le_refl _) _
  have hk : Has (w5.alloc (.cells #[.int .i64 0, .slice none 0 0] 64)) w5.heap.size #[.int .i64 0, .slice none 0 0] 64 := Has.new _ _ _
  replace HR := Lib.hid (HR.out.below hbk HR.out.lt)
  replace HY := Lib.hid (HY.out.below hbk HY.out.lt)
  replace HB := Lib.hid (HB.out.trans (hbk.mono HB.out.size))
  obtain ⟨w6, hw⟩ : ∃ W, w5.alloc (.cells #[.int .i64 0, .slice none 0 0] 64) = W := ⟨_, rfl⟩
  obtain ⟨L, hL⟩ : ∃ Q, w5.heap.size = Q := ⟨_, rfl⟩
  replace HN2 : Hid (w.heap.size ≤ R ∧ R < Y ∧ Y < L ∧ w.heap.size = P ∧ L < w6.heap.size) := Lib.hid (by have := HN2.out; have := hk.lt; rw [← hw]; omega)
  rw [hw] at hk HR HY HB ⊢
  rw [hL] at hk ⊢
  have HL := Lib.hid hk
  clear hw hL hk hbk
  obtain ⟨i0, hi0, hz0, hz1, hz2⟩ := info_parts po_all
  have HI := Lib.hid hi0
  have HZ0 := Lib.hid hz0
  have HZ1 := Lib.hid hz1
  have HZ2 := Lib.hid hz2
  clear hi0 hz0 hz1 hz2
  have l1 : w6.cell? ⟨L, 1, none⟩ = some (.slice none 0 0) := HL.out.cell 1
  have HYC : Hid (Cells w6 w6.heap.size (some ⟨Y, 0, none⟩) (4 * 7) (fun j => poL[j]!)) := Lib.hid (fun _ => ⟨_, rfl, HY.out.lt, fun j hj => by
    rw [Go.WideShapes.add_plain, Nat.zero_add, HY.out.cell]
    have hj : j < 28 := hj
    match j, hj with
    | 0, _ | 1, _ | 2, _ | 3, _ | 4, _ | 5, _ | 6, _ | 7, _ | 8, _ | 9, _ | 10, _ | 11, _ | 12, _ | 13, _ | 14, _ | 15, _ | 16, _ | 17, _ | 18, _ | 19, _ | 20, _ | 21, _ | 22, _ | 23, _ | 24, _ | 25, _ | 26, _ | 27, _ => rfl
    | n + 28, h => exact absurd h (by omega)⟩)
  have HPO : Hid (∀ j, j < 4 * 7 → (poL[j]!).oneCell' = true) := Lib.hid (fun j hj => by
    have hj : j < 28 := hj
    match j, hj with
    | 0, _ | 1, _ | 2, _ | 3, _ | 4, _ | 5, _ | 6, _ | 7, _ | 8, _ | 9, _ | 10, _ | 11, _ | 12, _ | 13, _ | 14, _ | 15, _ | 16, _ | 17, _ | 18, _ | 19, _ | 20, _ | 21, _ | 22, _ | 23, _ | 24, _ | 25, _ | 26, _ | 27, _ => rfl
    | n + 28, h => exact absurd h (by omega))
  have hs6 : w.heap.size ≤ w6.heap.size := HB.out.size
  go_upto_region 23 with ((at_builtin; refine wpList_append_cells _ rfl _ _ 62 rfl w.heap.size 101 i0 _ 7 56 Tryz.underlying62 HI.out HZ0.out HZ1.out HZ2.out rfl (by omega) _ 0 [] rfl (own_nil _ _ _ _) w6.heap.size (some ⟨Y, 0, none⟩) 4 4 (fun j => poL[j]!) rfl HYC.out (fun e => by cases e) HPO.out (by unfold maxLen; omega) (by omega) (by omega) ?_; intro v' w7 hown hgrow hat; have HA := Lib.hid (post_app hown (fun j hj => rowL_get 28 (fun j => poL[j]!) j hj) hgrow (hat.imp (fun h => h) (fun h => ⟨_, h, Nat.le_refl _⟩))); clear hown hgrow hat; obtain ⟨g, cp, rfl, hA⟩ := HA.out; have HA2 := Lib.hid hA; clear hA HA; have l1' : w7.cell? ⟨L, 1, none⟩ = some (.slice none 0 0) := (HL.out.below HA2.out.2.1 HL.out.lt).cell 1; have lf1 : w7.frozen? ⟨L, 1, none⟩ = false := (HL.out.below HA2.out.2.1 HL.out.lt).free _; have ll := (HL.out.below HA2.out.2.1 HL.out.lt).lt))
  have hl8 : Leaves (fun k => k = L) w7 (w7.setCell ⟨L, 1, none⟩ (.slice (some ⟨g, 0, none⟩) 4 cp)) := (Leaves.refl (fun k => k = L) _).at _ _
  have hL8 : Has (w7.setCell ⟨L, 1, none⟩ (.slice (some ⟨g, 0, none⟩) 4 cp)) L #[.int .i64 0, .slice (some ⟨g, 0, none⟩) 4 cp] 64 := (HL.out.below HA2.out.2.1 HL.out.lt).put 1 _
  obtain ⟨w8, hw⟩ : ∃ W, w7.setCell ⟨L, 1, none⟩ (.slice (some ⟨g, 0, none⟩) 4 cp) = W := ⟨_, rfl⟩
  rw [hw] at hl8 hL8 ⊢
  replace HR := Lib.hid ((HR.out.below HA2.out.2.1 HR.out.lt).leaves hl8 (by have := HN2.out; show ¬ R = L; omega))
  replace HB : Hid (Below w.heap.size w w8) := Lib.hid ((HB.out.trans (HA2.out.2.1.mono HB.out.size)).trans (hl8.new_or (by have := HN2.out; omega) (by have := HA2.out.2.1.size; omega)))
  have hgl : g < w7.heap.size := HA2.out.1.2
  have HG : Hid (PoAt w8 g) := Lib.hid (HA2.out.1.leaves hl8 (by have := HN2.out; have := HA2.out.2.2; show ¬ g = L; omega))
  have HN3 : Hid (w.heap.size ≤ R ∧ R < g ∧ w.heap.size ≤ g) := Lib.hid (by have := HN2.out; have := HA2.out.2.2; omega)
  have m0 : w8.cell? ⟨L, 0, none⟩ = some (.int .i64 0) := hL8.cell 0
  have m1 : w8.cell? ⟨L, 1, none⟩ = some (.slice (some ⟨g, 0, none⟩) 4 cp) := hL8.cell 1
  have r0 : w8.cell? ⟨R, 0, none⟩ = some (.int .i64 0) := HR.out.cell 0
  have r1 : w8.cell? ⟨R, 1, none⟩ = some (.slice none 0 0) := HR.out.cell 1
  have rf0 : w8.frozen? ⟨R, 0, none⟩ = false := HR.out.free _
  have rf1 : w8.frozen? ⟨R, 1, none⟩ = false := HR.out.free _
  have rl := HR.out.lt
  clear hw hl8 hL8 hgl HA2 HL HYC HPO hs6 l1 l1' lf1 ll HY
  go_wp2_with fail
  have hl9 : Leaves (fun k => k = R) w8 ((w8.setCell ⟨R, 0, none⟩ (.int .i64 0)).setCell ⟨R, 1, none⟩ (.slice (some ⟨g, 0, none⟩) 4 cp)) := ((Leaves.refl (fun k => k = R) _).at _ _).at _ _
  have hr9 : Has ((w8.setCell ⟨R, 0, none⟩ (.int .i64 0)).setCell ⟨R, 1, none⟩ (.slice (some ⟨g, 0, none⟩) 4 cp)) R #[.int .i64 0, .slice (some ⟨g, 0, none⟩) 4 cp] 64 := (HR.out.put 0 _).put 1 _
  refine bodyPost_ret (results_cell_tmp rfl _ _ R _ #[.int .i64 0, .slice (some ⟨g, 0, none⟩) 4 cp] _ _ (.int .i64 0) ?_ ?_ hr9 Tryz.underlying64 rfl led_info0) rfl ?_
  · rfl
  · rfl
  exact ⟨g, cp, rfl, HG.out.leaves hl9 (by have := HN3.out; show ¬ g = R; omega), HN3.out.2.2, HB.out.trans (hl9.new_or HN3.out.1 HB.out.size)⟩
end Go.Proofs.YtbeikfopneeodaaGreat
