/- ledger.Collect at the lists of the example (printed by wip/gen/tcm.py). -/
import Derived.Test.YtbeikfopneeodaaGreatMt26
namespace Go.Proofs.YtbeikfopneeodaaGreat
open Go.RowKit
set_option linter.unusedVariables false


set_option maxRecDepth 100000 in
set_option maxHeartbeats 4000000 in
theorem collect_mix (X cap : Nat) (w : World) (h : EnAt w X [0, 2, 1, 3]) : Calls Tryz.prog 95 #[.slice (some ⟨X, 0, none⟩) 4 cap] w (CollPost w) := by
  have HXl := Lib.hid h.2
  have HX := Lib.hid h
  have hmm := @run_makeMap Tryz.prog
  have HM0 : OwnM (w.alloc (.map #[] 0)) w.heap.size 0 [] := World.ownsMap_made _ _ _ _
  clear h
  go_enter Tryz.func95, Tryz.ntmps95
  go_wp2_with fail
  clear hmm
  refine wp_loop_rounds 5 ?_
  obtain ⟨v0, hv⟩ : ∃ W, w.alloc (.map #[] 0) = W := ⟨_, rfl⟩
  obtain ⟨B, hBe⟩ : ∃ Q, w.heap.size = Q := ⟨_, rfl⟩
  have HB : Hid (Below w.heap.size w v0) := Lib.hid (by rw [← hv]; exact (Below.refl _ _).alloc (Nat.le_refl _) _)
  replace HX := Lib.hid (HX.out.below HB.out HXl.out)
  rw [hv] at HM0 ⊢
  rw [hBe] at HM0 ⊢
  have HM := Lib.hid HM0
  have HBe := Lib.hid hBe
  clear hv hBe HM0
  rw [rounds_succ]
  have x0 : v0.cell? ⟨X, 0, none⟩ = some (.int .i64 1) := HX.out.1 0 (by simp)
  have x1 : v0.cell? ⟨X, 1, none⟩ = some (.int .i64 0) := HX.out.1 1 (by simp)
  have x2 : v0.cell? ⟨X, 2, none⟩ = some (.int .i64 0) := HX.out.1 2 (by simp)
  have x3 : v0.cell? ⟨X, 3, none⟩ = some (.int .i64 7) := HX.out.1 3 (by simp)
  have x4 : v0.cell? ⟨X, 4, none⟩ = some (.int .i64 15) := HX.out.1 4 (by simp)
  have xl := HX.out.2
  go_wp2_with fail
  refine (lvalid_p0 _).mono ?_
  rintro e u0 ⟨rfl, hb⟩
  have hb1 : Below v0.heap.size v0 u0 := ((Below.refl _ _).alloc (Nat.le_refl _) _).trans (hb.mono (by simp))
  have hg : Has u0 v0.heap.size #[.int .i64 1, .int .i64 0, .int .i64 0, .int .i64 7, .int .i64 15] 99 := (Has.new v0 _ _).below hb (by simp)
  have hmu : OwnM u0 B 0 [] := own_map_b HM.out (hb1.block B HM.out.lt)
  have hBG := HM.out.lt
  replace HB := Lib.hid (HB.out.trans (hb1.mono HB.out.size))
  replace HX := Lib.hid (HX.out.below hb1 HX.out.2)
  clear hb hb1 x0 x1 x2 x3 x4 xl
  obtain ⟨G, hG⟩ : ∃ Q, v0.heap.size = Q := ⟨_, rfl⟩
  rw [hG] at hg hBG ⊢
  clear hG
  have g0 : u0.cell? ⟨G, 0, none⟩ = some (.int .i64 1) := hg.cell 0
  have g1 : u0.cell? ⟨G, 1, none⟩ = some (.int .i64 0) := hg.cell 1
  have g2 : u0.cell? ⟨G, 2, none⟩ = some (.int .i64 0) := hg.cell 2
  have g3 : u0.cell? ⟨G, 3, none⟩ = some (.int .i64 7) := hg.cell 3
  have g4 : u0.cell? ⟨G, 4, none⟩ = some (.int .i64 15) := hg.cell 4
  have gl := hg.lt
  go_upto_region 11 with (fail)
  have hm2 : OwnM (u0.alloc (.cells #[.int .i64 1, .int .i64 0, .int .i64 0, .int .i64 7, .int .i64 0] 99)).drew B 0 [] := own_map_b hmu (Below.heap_alloc _ _ _ hmu.lt)
  have k7 : Has (u0.alloc (.cells #[.int .i64 1, .int .i64 0, .int .i64 0, .int .i64 7, .int .i64 0] 99)) u0.heap.size #[.int .i64 1, .int .i64 0, .int .i64 0, .int .i64 7, .int .i64 0] 99 := Has.new _ _ _
  have hg2 : Has (u0.alloc (.cells #[.int .i64 1, .int .i64 0, .int .i64 0, .int .i64 7, .int .i64 0] 99)) G #[.int .i64 1, .int .i64 0, .int .i64 0, .int .i64 7, .int .i64 15] 99 := hg.alloc _
  have hHB : B ≠ u0.heap.size := by have := hmu.lt; omega
  have hb2 : Below u0.heap.size u0 (u0.alloc (.cells #[.int .i64 1, .int .i64 0, .int .i64 0, .int .i64 7, .int .i64 0] 99)) := (Below.refl _ _).alloc (Nat.le_refl _) _
  obtain ⟨w2, hw2⟩ : ∃ W, u0.alloc (.cells #[.int .i64 1, .int .i64 0, .int .i64 0, .int .i64 7, .int .i64 0] 99) = W := ⟨_, rfl⟩
  obtain ⟨H, hH⟩ : ∃ Q, u0.heap.size = Q := ⟨_, rfl⟩
  replace HB : Hid (Below w.heap.size w (u0.alloc (.cells #[.int .i64 1, .int .i64 0, .int .i64 0, .int .i64 7, .int .i64 0] 99))) := Lib.hid (HB.out.trans (hb2.mono HB.out.size))
  replace HX : Hid (EnAt (u0.alloc (.cells #[.int .i64 1, .int .i64 0, .int .i64 0, .int .i64 7, .int .i64 0] 99)) X [0, 2, 1, 3]) := Lib.hid (HX.out.below hb2 HX.out.2)
  rw [hw2] at hm2 k7 hg2 HB HX ⊢
  rw [hH] at k7 hHB ⊢
  clear hw2 hH hb2 hmu hg g0 g1 g2 g3 g4 gl
  have f0 := add_new hm2 (hk_spec 0) (mapD_miss [] (by omega) (by simp))
  obtain ⟨st, w3, f1, f3, hl3, v1, f2, hown, hl4⟩ := add_entry2 hm2 (hk_spec 0) (mapD_miss [] (by omega) (by simp)) (by unfold maxLen; omega) 15 (by decide)
  change (Instr.lookup 238 (.map (some B)) (.agg #[.int .i64 1, .int .i64 0, .int .i64 0, .int .i64 7, .int .i64 0]) false).run Tryz.prog w2.drew = _ at f0
  change (Instr.mapEntry 238 (.map (some B)) (.agg #[.int .i64 1, .int .i64 0, .int .i64 0, .int .i64 7, .int .i64 0])).run Tryz.prog w2.drew = _ at f1
  change (Instr.lookup 238 (.map (some B)) (.agg #[.int .i64 1, .int .i64 0, .int .i64 0, .int .i64 7, .int .i64 0]) false).run Tryz.prog w3 = _ at f3
  have k0 : w2.cell? ⟨H, 0, none⟩ = some (.int .i64 1) := k7.cell 0
  have k1 : w2.cell? ⟨H, 1, none⟩ = some (.int .i64 0) := k7.cell 1
  have k2 : w2.cell? ⟨H, 2, none⟩ = some (.int .i64 0) := k7.cell 2
  have k3 : w2.cell? ⟨H, 3, none⟩ = some (.int .i64 7) := k7.cell 3
  have k4 : w2.cell? ⟨H, 4, none⟩ = some (.int .i64 0) := k7.cell 4
  have q4 : w2.cell? ⟨G, 4, none⟩ = some (.int .i64 15) := hg2.cell 4
  have q43 : w3.cell? ⟨G, 4, none⟩ = some (.int .i64 15) := (cell_leaves hl3 hg2.lt (by show ¬ G = B; omega)).trans q4
  have hz0 : IntKind.i64.wrap 15 = 15 := by decide
  have hz1 : IntKind.i64.wrap (0 + 15) = 15 := by decide
  go_region
  have hb5 : Below w.heap.size w2.drew v1 := hl4.below (fun k hk => by have hk' : k = B := hk; have := HBe.out; omega) HB.out.size
  have hb4 : Below w.heap.size w v1 := HB.out.drew.trans hb5
  replace HX : Hid (EnAt v1 X [0, 2, 1, 3]) := Lib.hid (EnAt.below (w := w2.drew) HX.out hb5 HXl.out)
  replace HM : Hid (OwnM v1 B 1 [(0, 15)]) := Lib.hid hown
  replace HB := Lib.hid hb4
  clear hb5 hb4 hown hl4 hl3 f0 f1 f2 f3 k0 k1 k2 k3 k4 q4 q43 hz0 hz1 k7 hg2 hHB hm2 hBG
  go_wp2_with fail
  rw [rounds_succ]
  have x0 : v1.cell? ⟨X, 5, none⟩ = some (.int .i64 2) := HX.out.1 5 (by simp)
  have x1 : v1.cell? ⟨X, 6, none⟩ = some (.int .i64 0) := HX.out.1 6 (by simp)
  have x2 : v1.cell? ⟨X, 7, none⟩ = some (.int .i64 0) := HX.out.1 7 (by simp)
  have x3 : v1.cell? ⟨X, 8, none⟩ = some (.int .i64 7) := HX.out.1 8 (by simp)
  have x4 : v1.cell? ⟨X, 9, none⟩ = some (.int .i64 35) := HX.out.1 9 (by simp)
  have xl := HX.out.2
  go_wp2_with fail
  refine (lvalid_r0 _).mono ?_
  rintro e u1 ⟨rfl, hb⟩
  have hb1 : Below v1.heap.size v1 u1 := ((Below.refl _ _).alloc (Nat.le_refl _) _).trans (hb.mono (by simp))
  have hg : Has u1 v1.heap.size #[.int .i64 2, .int .i64 0, .int .i64 0, .int .i64 7, .int .i64 35] 99 := (Has.new v1 _ _).below hb (by simp)
  have hmu : OwnM u1 B 1 [(0, 15)] := own_map_b HM.out (hb1.block B HM.out.lt)
  have hBG := HM.out.lt
  replace HB := Lib.hid (HB.out.trans (hb1.mono HB.out.size))
  replace HX := Lib.hid (HX.out.below hb1 HX.out.2)
  clear hb hb1 x0 x1 x2 x3 x4 xl
  obtain ⟨G, hG⟩ : ∃ Q, v1.heap.size = Q := ⟨_, rfl⟩
  rw [hG] at hg hBG ⊢
  clear hG
  have g0 : u1.cell? ⟨G, 0, none⟩ = some (.int .i64 2) := hg.cell 0
  have g1 : u1.cell? ⟨G, 1, none⟩ = some (.int .i64 0) := hg.cell 1
  have g2 : u1.cell? ⟨G, 2, none⟩ = some (.int .i64 0) := hg.cell 2
  have g3 : u1.cell? ⟨G, 3, none⟩ = some (.int .i64 7) := hg.cell 3
  have g4 : u1.cell? ⟨G, 4, none⟩ = some (.int .i64 35) := hg.cell 4
  have gl := hg.lt
  go_upto_region 11 with (fail)
  have hm2 : OwnM (u1.alloc (.cells #[.int .i64 2, .int .i64 0, .int .i64 0, .int .i64 7, .int .i64 0] 99)).drew B 1 [(0, 15)] := own_map_b hmu (Below.heap_alloc _ _ _ hmu.lt)
  have k7 : Has (u1.alloc (.cells #[.int .i64 2, .int .i64 0, .int .i64 0, .int .i64 7, .int .i64 0] 99)) u1.heap.size #[.int .i64 2, .int .i64 0, .int .i64 0, .int .i64 7, .int .i64 0] 99 := Has.new _ _ _
  have hg2 : Has (u1.alloc (.cells #[.int .i64 2, .int .i64 0, .int .i64 0, .int .i64 7, .int .i64 0] 99)) G #[.int .i64 2, .int .i64 0, .int .i64 0, .int .i64 7, .int .i64 35] 99 := hg.alloc _
  have hHB : B ≠ u1.heap.size := by have := hmu.lt; omega
  have hb2 : Below u1.heap.size u1 (u1.alloc (.cells #[.int .i64 2, .int .i64 0, .int .i64 0, .int .i64 7, .int .i64 0] 99)) := (Below.refl _ _).alloc (Nat.le_refl _) _
  obtain ⟨w2, hw2⟩ : ∃ W, u1.alloc (.cells #[.int .i64 2, .int .i64 0, .int .i64 0, .int .i64 7, .int .i64 0] 99) = W := ⟨_, rfl⟩
  obtain ⟨H, hH⟩ : ∃ Q, u1.heap.size = Q := ⟨_, rfl⟩
  replace HB : Hid (Below w.heap.size w (u1.alloc (.cells #[.int .i64 2, .int .i64 0, .int .i64 0, .int .i64 7, .int .i64 0] 99))) := Lib.hid (HB.out.trans (hb2.mono HB.out.size))
  replace HX : Hid (EnAt (u1.alloc (.cells #[.int .i64 2, .int .i64 0, .int .i64 0, .int .i64 7, .int .i64 0] 99)) X [0, 2, 1, 3]) := Lib.hid (HX.out.below hb2 HX.out.2)
  rw [hw2] at hm2 k7 hg2 HB HX ⊢
  rw [hH] at k7 hHB ⊢
  clear hw2 hH hb2 hmu hg g0 g1 g2 g3 g4 gl
  have f0 := add_new hm2 (hk_spec 2) (mapD_miss [(0, 15)] (by omega) (by simp))
  obtain ⟨st, w3, f1, f3, hl3, v2, f2, hown, hl4⟩ := add_entry2 hm2 (hk_spec 2) (mapD_miss [(0, 15)] (by omega) (by simp)) (by unfold maxLen; omega) 35 (by decide)
  change (Instr.lookup 238 (.map (some B)) (.agg #[.int .i64 2, .int .i64 0, .int .i64 0, .int .i64 7, .int .i64 0]) false).run Tryz.prog w2.drew = _ at f0
  change (Instr.mapEntry 238 (.map (some B)) (.agg #[.int .i64 2, .int .i64 0, .int .i64 0, .int .i64 7, .int .i64 0])).run Tryz.prog w2.drew = _ at f1
  change (Instr.lookup 238 (.map (some B)) (.agg #[.int .i64 2, .int .i64 0, .int .i64 0, .int .i64 7, .int .i64 0]) false).run Tryz.prog w3 = _ at f3
  have k0 : w2.cell? ⟨H, 0, none⟩ = some (.int .i64 2) := k7.cell 0
  have k1 : w2.cell? ⟨H, 1, none⟩ = some (.int .i64 0) := k7.cell 1
  have k2 : w2.cell? ⟨H, 2, none⟩ = some (.int .i64 0) := k7.cell 2
  have k3 : w2.cell? ⟨H, 3, none⟩ = some (.int .i64 7) := k7.cell 3
  have k4 : w2.cell? ⟨H, 4, none⟩ = some (.int .i64 0) := k7.cell 4
  have q4 : w2.cell? ⟨G, 4, none⟩ = some (.int .i64 35) := hg2.cell 4
  have q43 : w3.cell? ⟨G, 4, none⟩ = some (.int .i64 35) := (cell_leaves hl3 hg2.lt (by show ¬ G = B; omega)).trans q4
  have hz0 : IntKind.i64.wrap 35 = 35 := by decide
  have hz1 : IntKind.i64.wrap (0 + 35) = 35 := by decide
  go_region
  have hb5 : Below w.heap.size w2.drew v2 := hl4.below (fun k hk => by have hk' : k = B := hk; have := HBe.out; omega) HB.out.size
  have hb4 : Below w.heap.size w v2 := HB.out.drew.trans hb5
  replace HX : Hid (EnAt v2 X [0, 2, 1, 3]) := Lib.hid (EnAt.below (w := w2.drew) HX.out hb5 HXl.out)
  replace HM : Hid (OwnM v2 B 2 [(2, 35), (0, 15)]) := Lib.hid hown
  replace HB := Lib.hid hb4
  clear hb5 hb4 hown hl4 hl3 f0 f1 f2 f3 k0 k1 k2 k3 k4 q4 q43 hz0 hz1 k7 hg2 hHB hm2 hBG
  go_wp2_with fail
  rw [rounds_succ]
  have x0 : v2.cell? ⟨X, 10, none⟩ = some (.int .i64 1) := HX.out.1 10 (by simp)
  have x1 : v2.cell? ⟨X, 11, none⟩ = some (.int .i64 1) := HX.out.1 11 (by simp)
  have x2 : v2.cell? ⟨X, 12, none⟩ = some (.int .i64 2) := HX.out.1 12 (by simp)
  have x3 : v2.cell? ⟨X, 13, none⟩ = some (.int .i64 7) := HX.out.1 13 (by simp)
  have x4 : v2.cell? ⟨X, 14, none⟩ = some (.int .i64 15) := HX.out.1 14 (by simp)
  have xl := HX.out.2
  go_wp2_with fail
  refine (lvalid_p1 _).mono ?_
  rintro e u2 ⟨rfl, hb⟩
  have hb1 : Below v2.heap.size v2 u2 := ((Below.refl _ _).alloc (Nat.le_refl _) _).trans (hb.mono (by simp))
  have hg : Has u2 v2.heap.size #[.int .i64 1, .int .i64 1, .int .i64 2, .int .i64 7, .int .i64 15] 99 := (Has.new v2 _ _).below hb (by simp)
  have hmu : OwnM u2 B 2 [(2, 35), (0, 15)] := own_map_b HM.out (hb1.block B HM.out.lt)
  have hBG := HM.out.lt
  replace HB := Lib.hid (HB.out.trans (hb1.mono HB.out.size))
  replace HX := Lib.hid (HX.out.below hb1 HX.out.2)
  clear hb hb1 x0 x1 x2 x3 x4 xl
  obtain ⟨G, hG⟩ : ∃ Q, v2.heap.size = Q := ⟨_, rfl⟩
  rw [hG] at hg hBG ⊢
  clear hG
  have g0 : u2.cell? ⟨G, 0, none⟩ = some (.int .i64 1) := hg.cell 0
  have g1 : u2.cell? ⟨G, 1, none⟩ = some (.int .i64 1) := hg.cell 1
  have g2 : u2.cell? ⟨G, 2, none⟩ = some (.int .i64 2) := hg.cell 2
  have g3 : u2.cell? ⟨G, 3, none⟩ = some (.int .i64 7) := hg.cell 3
  have g4 : u2.cell? ⟨G, 4, none⟩ = some (.int .i64 15) := hg.cell 4
  have gl := hg.lt
  go_upto_region 11 with (fail)
  have hm2 : OwnM (u2.alloc (.cells #[.int .i64 1, .int .i64 1, .int .i64 2, .int .i64 7, .int .i64 0] 99)).drew B 2 [(2, 35), (0, 15)] := own_map_b hmu (Below.heap_alloc _ _ _ hmu.lt)
  have k7 : Has (u2.alloc (.cells #[.int .i64 1, .int .i64 1, .int .i64 2, .int .i64 7, .int .i64 0] 99)) u2.heap.size #[.int .i64 1, .int .i64 1, .int .i64 2, .int .i64 7, .int .i64 0] 99 := Has.new _ _ _
  have hg2 : Has (u2.alloc (.cells #[.int .i64 1, .int .i64 1, .int .i64 2, .int .i64 7, .int .i64 0] 99)) G #[.int .i64 1, .int .i64 1, .int .i64 2, .int .i64 7, .int .i64 15] 99 := hg.alloc _
  have hHB : B ≠ u2.heap.size := by have := hmu.lt; omega
  have hb2 : Below u2.heap.size u2 (u2.alloc (.cells #[.int .i64 1, .int .i64 1, .int .i64 2, .int .i64 7, .int .i64 0] 99)) := (Below.refl _ _).alloc (Nat.le_refl _) _
  obtain ⟨w2, hw2⟩ : ∃ W, u2.alloc (.cells #[.int .i64 1, .int .i64 1, .int .i64 2, .int .i64 7, .int .i64 0] 99) = W := ⟨_, rfl⟩
  obtain ⟨H, hH⟩ : ∃ Q, u2.heap.size = Q := ⟨_, rfl⟩
  replace HB : Hid (Below w.heap.size w (u2.alloc (.cells #[.int .i64 1, .int .i64 1, .int .i64 2, .int .i64 7, .int .i64 0] 99))) := Lib.hid (HB.out.trans (hb2.mono HB.out.size))
  replace HX : Hid (EnAt (u2.alloc (.cells #[.int .i64 1, .int .i64 1, .int .i64 2, .int .i64 7, .int .i64 0] 99)) X [0, 2, 1, 3]) := Lib.hid (HX.out.below hb2 HX.out.2)
  rw [hw2] at hm2 k7 hg2 HB HX ⊢
  rw [hH] at k7 hHB ⊢
  clear hw2 hH hb2 hmu hg g0 g1 g2 g3 g4 gl
  have f0 := add_new hm2 (hk_spec 1) (mapD_miss [(2, 35), (0, 15)] (by omega) (by simp))
  obtain ⟨st, w3, f1, f3, hl3, v3, f2, hown, hl4⟩ := add_entry2 hm2 (hk_spec 1) (mapD_miss [(2, 35), (0, 15)] (by omega) (by simp)) (by unfold maxLen; omega) 15 (by decide)
  change (Instr.lookup 238 (.map (some B)) (.agg #[.int .i64 1, .int .i64 1, .int .i64 2, .int .i64 7, .int .i64 0]) false).run Tryz.prog w2.drew = _ at f0
  change (Instr.mapEntry 238 (.map (some B)) (.agg #[.int .i64 1, .int .i64 1, .int .i64 2, .int .i64 7, .int .i64 0])).run Tryz.prog w2.drew = _ at f1
  change (Instr.lookup 238 (.map (some B)) (.agg #[.int .i64 1, .int .i64 1, .int .i64 2, .int .i64 7, .int .i64 0]) false).run Tryz.prog w3 = _ at f3
  have k0 : w2.cell? ⟨H, 0, none⟩ = some (.int .i64 1) := k7.cell 0
  have k1 : w2.cell? ⟨H, 1, none⟩ = some (.int .i64 1) := k7.cell 1
  have k2 : w2.cell? ⟨H, 2, none⟩ = some (.int .i64 2) := k7.cell 2
  have k3 : w2.cell? ⟨H, 3, none⟩ = some (.int .i64 7) := k7.cell 3
  have k4 : w2.cell? ⟨H, 4, none⟩ = some (.int .i64 0) := k7.cell 4
  have q4 : w2.cell? ⟨G, 4, none⟩ = some (.int .i64 15) := hg2.cell 4
  have q43 : w3.cell? ⟨G, 4, none⟩ = some (.int .i64 15) := (cell_leaves hl3 hg2.lt (by show ¬ G = B; omega)).trans q4
  have hz0 : IntKind.i64.wrap 15 = 15 := by decide
  have hz1 : IntKind.i64.wrap (0 + 15) = 15 := by decide
  go_region
  have hb5 : Below w.heap.size w2.drew v3 := hl4.below (fun k hk => by have hk' : k = B := hk; have := HBe.out; omega) HB.out.size
  have hb4 : Below w.heap.size w v3 := HB.out.drew.trans hb5
  replace HX : Hid (EnAt v3 X [0, 2, 1, 3]) := Lib.hid (EnAt.below (w := w2.drew) HX.out hb5 HXl.out)
  replace HM : Hid (OwnM v3 B 3 [(1, 15), (2, 35), (0, 15)]) := Lib.hid hown
  replace HB := Lib.hid hb4
  clear hb5 hb4 hown hl4 hl3 f0 f1 f2 f3 k0 k1 k2 k3 k4 q4 q43 hz0 hz1 k7 hg2 hHB hm2 hBG
  go_wp2_with fail
  rw [rounds_succ]
  have x0 : v3.cell? ⟨X, 15, none⟩ = some (.int .i64 2) := HX.out.1 15 (by simp)
  have x1 : v3.cell? ⟨X, 16, none⟩ = some (.int .i64 1) := HX.out.1 16 (by simp)
  have x2 : v3.cell? ⟨X, 17, none⟩ = some (.int .i64 2) := HX.out.1 17 (by simp)
  have x3 : v3.cell? ⟨X, 18, none⟩ = some (.int .i64 7) := HX.out.1 18 (by simp)
  have x4 : v3.cell? ⟨X, 19, none⟩ = some (.int .i64 35) := HX.out.1 19 (by simp)
  have xl := HX.out.2
  go_wp2_with fail
  refine (lvalid_r1 _).mono ?_
  rintro e u3 ⟨rfl, hb⟩
  have hb1 : Below v3.heap.size v3 u3 := ((Below.refl _ _).alloc (Nat.le_refl _) _).trans (hb.mono (by simp))
  have hg : Has u3 v3.heap.size #[.int .i64 2, .int .i64 1, .int .i64 2, .int .i64 7, .int .i64 35] 99 := (Has.new v3 _ _).below hb (by simp)
  have hmu : OwnM u3 B 3 [(1, 15), (2, 35), (0, 15)] := own_map_b HM.out (hb1.block B HM.out.lt)
  have hBG := HM.out.lt
  replace HB := Lib.hid (HB.out.trans (hb1.mono HB.out.size))
  replace HX := Lib.hid (HX.out.below hb1 HX.out.2)
  clear hb hb1 x0 x1 x2 x3 x4 xl
  obtain ⟨G, hG⟩ : ∃ Q, v3.heap.size = Q := ⟨_, rfl⟩
  rw [hG] at hg hBG ⊢
  clear hG
  have g0 : u3.cell? ⟨G, 0, none⟩ = some (.int .i64 2) := hg.cell 0
  have g1 : u3.cell? ⟨G, 1, none⟩ = some (.int .i64 1) := hg.cell 1
  have g2 : u3.cell? ⟨G, 2, none⟩ = some (.int .i64 2) := hg.cell 2
  have g3 : u3.cell? ⟨G, 3, none⟩ = some (.int .i64 7) := hg.cell 3
  have g4 : u3.cell? ⟨G, 4, none⟩ = some (.int .i64 35) := hg.cell 4
  have gl := hg.lt
  go_upto_region 11 with (fail)
  have hm2 : OwnM (u3.alloc (.cells #[.int .i64 2, .int .i64 1, .int .i64 2, .int .i64 7, .int .i64 0] 99)).drew B 3 [(1, 15), (2, 35), (0, 15)] := own_map_b hmu (Below.heap_alloc _ _ _ hmu.lt)
  have k7 : Has (u3.alloc (.cells #[.int .i64 2, .int .i64 1, .int .i64 2, .int .i64 7, .int .i64 0] 99)) u3.heap.size #[.int .i64 2, .int .i64 1, .int .i64 2, .int .i64 7, .int .i64 0] 99 := Has.new _ _ _
  have hg2 : Has (u3.alloc (.cells #[.int .i64 2, .int .i64 1, .int .i64 2, .int .i64 7, .int .i64 0] 99)) G #[.int .i64 2, .int .i64 1, .int .i64 2, .int .i64 7, .int .i64 35] 99 := hg.alloc _
  have hHB : B ≠ u3.heap.size := by have := hmu.lt; omega
  have hb2 : Below u3.heap.size u3 (u3.alloc (.cells #[.int .i64 2, .int .i64 1, .int .i64 2, .int .i64 7, .int .i64 0] 99)) := (Below.refl _ _).alloc (Nat.le_refl _) _
  obtain ⟨w2, hw2⟩ : ∃ W, u3.alloc (.cells #[.int .i64 2, .int .i64 1, .int .i64 2, .int .i64 7, .int .i64 0] 99) = W := ⟨_, rfl⟩
  obtain ⟨H, hH⟩ : ∃ Q, u3.heap.size = Q := ⟨_, rfl⟩
  replace HB : Hid (Below w.heap.size w (u3.alloc (.cells #[.int .i64 2, .int .i64 1, .int .i64 2, .int .i64 7, .int .i64 0] 99))) := Lib.hid (HB.out.trans (hb2.mono HB.out.size))
  replace HX : Hid (EnAt (u3.alloc (.cells #[.int .i64 2, .int .i64 1, .int .i64 2, .int .i64 7, .int .i64 0] 99)) X [0, 2, 1, 3]) := Lib.hid (HX.out.below hb2 HX.out.2)
  rw [hw2] at hm2 k7 hg2 HB HX ⊢
  rw [hH] at k7 hHB ⊢
  clear hw2 hH hb2 hmu hg g0 g1 g2 g3 g4 gl
  have f0 := add_new hm2 (hk_spec 3) (mapD_miss [(1, 15), (2, 35), (0, 15)] (by omega) (by simp))
  obtain ⟨st, w3, f1, f3, hl3, v4, f2, hown, hl4⟩ := add_entry2 hm2 (hk_spec 3) (mapD_miss [(1, 15), (2, 35), (0, 15)] (by omega) (by simp)) (by unfold maxLen; omega) 35 (by decide)
  change (Instr.lookup 238 (.map (some B)) (.agg #[.int .i64 2, .int .i64 1, .int .i64 2, .int .i64 7, .int .i64 0]) false).run Tryz.prog w2.drew = _ at f0
  change (Instr.mapEntry 238 (.map (some B)) (.agg #[.int .i64 2, .int .i64 1, .int .i64 2, .int .i64 7, .int .i64 0])).run Tryz.prog w2.drew = _ at f1
  change (Instr.lookup 238 (.map (some B)) (.agg #[.int .i64 2, .int .i64 1, .int .i64 2, .int .i64 7, .int .i64 0]) false).run Tryz.prog w3 = _ at f3
  have k0 : w2.cell? ⟨H, 0, none⟩ = some (.int .i64 2) := k7.cell 0
  have k1 : w2.cell? ⟨H, 1, none⟩ = some (.int .i64 1) := k7.cell 1
  have k2 : w2.cell? ⟨H, 2, none⟩ = some (.int .i64 2) := k7.cell 2
  have k3 : w2.cell? ⟨H, 3, none⟩ = some (.int .i64 7) := k7.cell 3
  have k4 : w2.cell? ⟨H, 4, none⟩ = some (.int .i64 0) := k7.cell 4
  have q4 : w2.cell? ⟨G, 4, none⟩ = some (.int .i64 35) := hg2.cell 4
  have q43 : w3.cell? ⟨G, 4, none⟩ = some (.int .i64 35) := (cell_leaves hl3 hg2.lt (by show ¬ G = B; omega)).trans q4
  have hz0 : IntKind.i64.wrap 35 = 35 := by decide
  have hz1 : IntKind.i64.wrap (0 + 35) = 35 := by decide
  go_region
  have hb5 : Below w.heap.size w2.drew v4 := hl4.below (fun k hk => by have hk' : k = B := hk; have := HBe.out; omega) HB.out.size
  have hb4 : Below w.heap.size w v4 := HB.out.drew.trans hb5
  replace HX : Hid (EnAt v4 X [0, 2, 1, 3]) := Lib.hid (EnAt.below (w := w2.drew) HX.out hb5 HXl.out)
  replace HM : Hid (OwnM v4 B 4 [(3, 35), (1, 15), (2, 35), (0, 15)]) := Lib.hid hown
  replace HB := Lib.hid hb4
  clear hb5 hb4 hown hl4 hl3 f0 f1 f2 f3 k0 k1 k2 k3 k4 q4 q43 hz0 hz1 k7 hg2 hHB hm2 hBG
  go_wp2_with fail
  rw [rounds_succ]
  have hlen : ∀ ty, (Builtin.len_ #[238] ty #[.map (some B)]).run Tryz.prog v4 = .ok (.int .i64 4) v4 := fun ty => by
    have := HM.out.len Tryz.underlying238 ty
    rwa [mapD_size [(3, 35), (1, 15), (2, 35), (0, 15)] (by decide) (by decide)] at this
  have hmk : ∀ w : World, (Instr.makeSlice 137 (.int .i64 0) (.int .i64 4)).run Tryz.prog w = .ok (.slice (some ⟨w.heap.size, 0, none⟩) 0 4) (w.alloc (.cells #[.int .i64 0, .int .i64 0, .int .i64 0, .int .i64 0, .int .i64 0, .int .i64 0, .int .i64 0, .int .i64 0, .int .i64 0, .int .i64 0, .int .i64 0, .int .i64 0, .int .i64 0, .int .i64 0, .int .i64 0, .int .i64 0, .int .i64 0, .int .i64 0, .int .i64 0, .int .i64 0] 99)) := fun w => by kernel_rfl
  go_upto_region 14 with (fail)
  have hm5 : OwnM (v4.alloc (.cells #[.int .i64 0, .int .i64 0, .int .i64 0, .int .i64 0, .int .i64 0, .int .i64 0, .int .i64 0, .int .i64 0, .int .i64 0, .int .i64 0, .int .i64 0, .int .i64 0, .int .i64 0, .int .i64 0, .int .i64 0, .int .i64 0, .int .i64 0, .int .i64 0, .int .i64 0, .int .i64 0] 99)) B 4 [(3, 35), (1, 15), (2, 35), (0, 15)] := own_map_b HM.out (Below.heap_alloc _ _ _ HM.out.lt)
  have hE : Has (v4.alloc (.cells #[.int .i64 0, .int .i64 0, .int .i64 0, .int .i64 0, .int .i64 0, .int .i64 0, .int .i64 0, .int .i64 0, .int .i64 0, .int .i64 0, .int .i64 0, .int .i64 0, .int .i64 0, .int .i64 0, .int .i64 0, .int .i64 0, .int .i64 0, .int .i64 0, .int .i64 0, .int .i64 0] 99)) v4.heap.size #[.int .i64 0, .int .i64 0, .int .i64 0, .int .i64 0, .int .i64 0, .int .i64 0, .int .i64 0, .int .i64 0, .int .i64 0, .int .i64 0, .int .i64 0, .int .i64 0, .int .i64 0, .int .i64 0, .int .i64 0, .int .i64 0, .int .i64 0, .int .i64 0, .int .i64 0, .int .i64 0] 99 := Has.new _ _ _
  have hBE := HM.out.lt
  replace HB : Hid (Below w.heap.size w (v4.alloc (.cells #[.int .i64 0, .int .i64 0, .int .i64 0, .int .i64 0, .int .i64 0, .int .i64 0, .int .i64 0, .int .i64 0, .int .i64 0, .int .i64 0, .int .i64 0, .int .i64 0, .int .i64 0, .int .i64 0, .int .i64 0, .int .i64 0, .int .i64 0, .int .i64 0, .int .i64 0, .int .i64 0] 99))) := Lib.hid (HB.out.alloc HB.out.size _)
  obtain ⟨w5, hw5⟩ : ∃ W, v4.alloc (.cells #[.int .i64 0, .int .i64 0, .int .i64 0, .int .i64 0, .int .i64 0, .int .i64 0, .int .i64 0, .int .i64 0, .int .i64 0, .int .i64 0, .int .i64 0, .int .i64 0, .int .i64 0, .int .i64 0, .int .i64 0, .int .i64 0, .int .i64 0, .int .i64 0, .int .i64 0, .int .i64 0] 99) = W := ⟨_, rfl⟩
  obtain ⟨Y, hY⟩ : ∃ Q, v4.heap.size = Q := ⟨_, rfl⟩
  rw [hw5] at hm5 hE HB ⊢
  rw [hY] at hE hBE ⊢
  have HE := Lib.hid hE
  have HM5 := Lib.hid hm5
  clear hw5 hY hE hm5 hlen hmk HM HX
  go_wp2_with (refine wpList_range_own _ rfl (.tmp 38) 238 rfl 99 3 en_keyed Tryz.underlying238 (plainElem Tryz.prog 3) B 4 (mapD [(3, 35), (1, 15), (2, 35), (0, 15)]) rfl HM5.out ?_; intro w6 hr6 hgr6 hsz6)
  try simp only [Act.put, List.setIfInBounds_toArray, List.set_cons_zero, List.set_cons_succ]
  obtain ⟨r, hr⟩ : ∃ Q, w5.heap.size = Q := ⟨_, rfl⟩
  have hb6 : Below w.heap.size w w6 := HB.out.grown hgr6 HB.out.size (fun k hk => by cases hk)
  have ho5 : Own w6 w.heap.size Y 0 4 5 99 (fun _ => undef) := Own.grown ⟨_, HE.out, by have := HBe.out; omega, ⟨by omega, by unfold maxLen; omega⟩, rfl, fun j hj => by omega⟩ hgr6 (by simp)
  have hrb : w.heap.size ≤ r := by have := HB.out.size; omega
  rw [hr] at hr6 ⊢
  have HCL : Hid (CLoop w B r 4 [(3, 35), (1, 15), (2, 35), (0, 15)] (.slice (some ⟨Y, 0, none⟩) 0 4) (.slice (some ⟨Y, 0, none⟩) 0 4) w6) := Lib.hid ⟨[], _, _, by simp, by simp, fun i hi => by
    obtain ⟨q, hq, rfl⟩ := List.mem_map.1 hi
    have := mapD_here [(3, 35), (1, 15), (2, 35), (0, 15)] hq
    simpa using this, hr6, ho5.row, fun _ => rfl, hb6⟩
  clear hr hb6 ho5 hr6 hgr6 hsz6 HM5 HE HB hBE HBe
  have F1 : Hid ((([(3, 35), (1, 15), (2, 35), (0, 15)] : List (Nat × Int)).map (·.1)).Nodup) := Lib.hid (by decide)
  have F2 : Hid (∀ q ∈ ([(3, 35), (1, 15), (2, 35), (0, 15)] : List (Nat × Int)), q.1 ≤ 4) := Lib.hid (by decide)
  have F3 : Hid (∀ q ∈ ([(3, 35), (1, 15), (2, 35), (0, 15)] : List (Nat × Int)), q.1 ≤ 4 ∧ q.2 = (enN q.1).amt) := Lib.hid (by decide)
  have F4 : Hid (∀ q ∈ ([(3, 35), (1, 15), (2, 35), (0, 15)] : List (Nat × Int)), q.1 < 4) := Lib.hid (by decide)
  have F5 : Hid (∀ q, q < 4 → q ∈ (([(3, 35), (1, 15), (2, 35), (0, 15)] : List (Nat × Int)).map (·.1))) := Lib.hid (by decide)
  have F6 : Hid (([(3, 35), (1, 15), (2, 35), (0, 15)] : List (Nat × Int)).length ≤ 4) := Lib.hid (by decide)
  obtain ⟨L, hL⟩ : ∃ L : List (Nat × Int), [(3, 35), (1, 15), (2, 35), (0, 15)] = L := ⟨_, rfl⟩
  rw [hL] at HCL F1 F2 F3 F4 F5 F6
  clear hL
  obtain ⟨i0, hi0, hz0, hz1, hz2⟩ := info_parts entry_all
  have HI := Lib.hid hi0
  have HZ0 := Lib.hid hz0
  have HZ1 := Lib.hid hz1
  have HZ2 := Lib.hid hz2
  clear hi0 hz0 hz1 hz2
  go_loopw [8] (fun v wr => Hid (CLoop w B r 4 L (.slice (some ⟨Y, 0, none⟩) 0 4) v wr)) (fun _ wr => wr.rangeLeft B r)
  case atStart => exact HCL
  case round =>
    obtain ⟨seen, left, cnt, hcr⟩ := hrel.out
    have HC := Lib.hid hcr
    clear hcr hrel HCL
    go_wp2_with (refine en_next rfl (.tmp 39) rfl B r 4 cnt L left F1.out F2.out rfl HC.out.rg ?_ ?_)
    · intro hl0
      have hlt4 : ∀ i ∈ seen, i < 4 := fun i hi => by obtain ⟨q, hq, rfl⟩ := List.mem_map.1 (HC.out.sub i hi); exact F4.out q hq
      obtain ⟨a, b, c, d, hnd, hs⟩ := perm4 seen HC.out.nodup hlt4 (fun i hi => HC.out.all hl0 i (F5.out i hi))
      have hrow := HC.out.row
      rw [nz_all seen hlt4, hs] at hrow
      have hmade := Own.made (F := fun j => (Go.Sort.flatK En.enc 5 #[enN a, enN b, enN c, enN d])[j]!) hrow (fun j hj => enF_four _ _ _ _ j (by simpa using hj))
      rcases hmade with ⟨_, h0⟩ | ⟨g, cp, hv, ho⟩
      · cases h0
      subst hv
      have HOW : Hid (Own wr w.heap.size g 4 cp 5 99 (fun j => (Go.Sort.flatK En.enc 5 #[enN a, enN b, enN c, enN d])[j]!)) := Lib.hid ho
      have HBL := Lib.hid HC.out.bel
      have CS : Hid (Calls Tryz.prog 138 #[.slice (some ⟨g, 0, none⟩) 4 cp, .func (.func 139) #[] #[]] wr _) := Lib.hid (sort_en g cp #[enN a, enN b, enN c, enN d] #[enN 0, enN 1, enN 2, enN 3] wr (en_sorted a b c d hnd) rfl (show 4 ≤ 12 by omega) HOW.out.lt (fun j hj => HOW.out.cell (by simpa using hj)) (fun j => HOW.out.free j))
      clear hl0 hlt4 hs hnd hrow ho HC
      go_wp2_with fail
      refine CS.out.mono ?_
      rintro e w9 ⟨rfl, hl9, hc9⟩
      have HE9 : Hid (CollPost w (.returned (.tuple #[.slice (some ⟨g, 0, none⟩) 4 cp, .int .i64 0])) w9) := Lib.hid ⟨g, cp, HOW.out.len.1, rfl, ⟨fun j hj => (hc9 j (by simpa using hj)).trans (by rw [enAt_flat j (by simpa using hj)]), Nat.lt_of_lt_of_le HOW.out.lt hl9.size⟩, HOW.out.base_le, HBL.out.trans (hl9.below (fun k (hk : k = g) => by have := HOW.out.base_le; omega) HBL.out.size)⟩
      clear hl9 hc9 CS HOW HBL
      go_wp2_with fail
      go_ret2
      exact HE9.out
    · intro i x w1 cnt1 hp hlk hrg1 hlt hgr hsz hen
      obtain ⟨k, t, q, m, a, hk1, hk2, hk3, hk4, hva⟩ := en_pair L F3.out hp
      have hp4 : i < 4 := F4.out (i, x) hp
      have hane : a ≠ 0 := by rw [← hk4]; exact enN_amt _ hp4
      have ha1 : (a == 0) = false := by simpa using hane
      have ha2 : (a != 0) = true := by simpa using hane
      obtain ⟨N, hN⟩ : ∃ N, (nz seen).length = N := ⟨_, rfl⟩
      obtain ⟨xs, hxs⟩ : ∃ xs, enF (nz seen) = xs := ⟨_, rfl⟩
      have hN4 : N ≤ 4 := by
        have h1 := HC.out.few
        have h2 := nz_le seen
        have h3 := F6.out
        omega
      have hL1 : Leaves (fun k => k = r) wr w1 := (Leaves.refl _ wr).grown hgr (fun k hk => .inl (Option.some.inj hk).symm)
      have hne := ranges_ne_own HC.out.rg HC.out.row
      have hrow1 := own_leaves HC.out.row hL1 (fun k hk (e : k = r) => hne.2 (by rw [hk, e]))
      have hbel1 : Below w.heap.size w w1 := HC.out.bel.trans (hL1.below (fun k (hk : k = r) => by have h1 := hrb; omega) HC.out.bel.size)
      have hs1 : w.heap.size ≤ w1.heap.size := hbel1.size
      have hstep := fun (w' : World) (v' : Value) => @CRel.step w wr w' B r 4 cnt cnt1 L (.slice (some ⟨Y, 0, none⟩) 0 4) _ v' seen left HC.out i x hp F2.out hlk
      rw [nz_snoc_in seen (by rw [hk4]; exact hane), enF_snoc, hk2, hxs, List.length_append, List.length_singleton, hN] at hstep
      rw [hN, hxs] at hrow1
      have HROW := Lib.hid hrow1
      have HNE := Lib.hid hne
      have HRG := Lib.hid hrg1
      have HLT := Lib.hid hlt
      have HBL := Lib.hid hbel1
      have HST := Lib.hid hstep
      rw [hk1, hk3] at hen
      rw [hk1, hk3]
      clear hk1 hk2 hk3 hk4 hp hp4 hane hN hxs hL1 hne hrow1 hbel1 hstep hlk hrg1 hlt hgr hsz
      go_wp2_with fail
      refine (valid_any _ _).mono ?_
      rintro e w' ⟨rfl, rfl⟩
      rw [hva]
      go_wp2_with ((at_builtin; refine wpList_append_lies _ rfl _ _ 137 rfl w.heap.size 99 i0 _ 5 40 Tryz.underlying137 HI.out HZ0.out HZ1.out HZ2.out rfl (by omega) _ N xs rfl ((HROW.out.alloc _).alloc _) ⟨w1.heap.size + 1, 0, none⟩ 1 1 [.int .i64 k, .int .i64 t, .int .i64 q, .int .i64 m, .int .i64 a] rfl rfl (World.news_of_block (cs := #[.int .i64 k, .int .i64 t, .int .i64 q, .int .i64 m, .int .i64 a]) (t := 99) (fr := (0, 0)) (Has.new' (w1.alloc _) _ _ _ (by simp))) (by simp [Value.oneCell']) (by omega) (by unfold maxLen; omega) (by omega) (by simp; omega) (w1.heap.size + 1 + 1) (by simp) ?_; intro g cap w4 hown hgrow hat hlt4))
      have hrg4 := ((HRG.out.alloc (.cells #[.int .i64 k, .int .i64 t, .int .i64 q, .int .i64 m, .int .i64 a] 99)).alloc (.cells #[.int .i64 k, .int .i64 t, .int .i64 q, .int .i64 m, .int .i64 a] 99)).kept hgrow HNE.out.1 HNE.out.2
      have hb4 : Below w.heap.size w w4 := ((HBL.out.alloc HBL.out.size _).alloc (by simp; omega) _).grown hgrow (by simp; omega) (fun k hk => (own_lt HROW.out hk).2)
      have HNEW := Lib.hid (HST.out w4 _ hrg4 hown (fun h => absurd h (by simp)) hb4)
      have HM : Hid (w4.rangeLeft B r < wr.rangeLeft B r) := Lib.hid (by rw [hrg4.left_eq, HC.out.rg.left_eq]; exact HLT.out)
      clear hrg4 hb4 hown hgrow hat hlt4 hen
      go_wp2_with fail
      go_roundw
      case rel => exact Lib.hid ⟨_, _, _, HNEW.out⟩
      case measure => exact HM.out
end Go.Proofs.YtbeikfopneeodaaGreat
