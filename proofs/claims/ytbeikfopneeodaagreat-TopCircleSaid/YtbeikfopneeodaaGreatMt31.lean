/- ledger.Restate of the four entries of the example at a ledger with no posting (printed by wip/gen/tdj.py). -/
import Derived.Test.YtbeikfopneeodaaGreatMt30
namespace Go.Proofs.YtbeikfopneeodaaGreat
open Go.RowKit
set_option linter.unusedVariables false

def RestPost (w : World) (e : Ending) (w' : World) : Prop := ∃ Y cap v, e = .returned (.tuple #[.agg #[.int .i64 0, .slice (some ⟨Y, 0, none⟩) 4 cap], v, .int .i64 0]) ∧ PoAt w' Y ∧ w.heap.size ≤ Y ∧ Below w.heap.size w w'

theorem PoAt.row {w : World} {X : Nat} (h : PoAt w X) : Cells w w.heap.size (some ⟨X, 0, none⟩) (4 * 7) (fun j => poL[j]!) := fun _ => ⟨_, rfl, h.2, fun j hj => by
  rw [Go.WideShapes.add_plain, Nat.zero_add]
  exact h.1 j hj⟩
theorem poL_one (j : Nat) (hj : j < 28) : (poL[j]!).oneCell' = true := by
  match j, hj with
  | 0, _ | 1, _ | 2, _ | 3, _ | 4, _ | 5, _ | 6, _ | 7, _ | 8, _ | 9, _ | 10, _ | 11, _ | 12, _ | 13, _ | 14, _ | 15, _ | 16, _ | 17, _ | 18, _ | 19, _ | 20, _ | 21, _ | 22, _ | 23, _ | 24, _ | 25, _ | 26, _ | 27, _ => rfl
  | n + 28, h => exact absurd h (by omega)

theorem results_cell_tmp2 {P : Program} {fn : Func} {p q r : Tmp} {ty : TypeId} (h : fn.results = #[.cell p ty, .tmp q, .tmp r]) (tmps : Array Value) (w : World) (g : Nat) (t : TypeId) (cs : Array Value) (fr : Nat × Nat) (d : TypeDesc) (v u : Value)
    (hp : tmps.getD p undef = .pointer (some ⟨g, 0, none⟩)) (hq : tmps.getD q undef = v) (hr : tmps.getD r undef = u) (hg : w.heap[g]? = some (.cells cs t fr))
    (hu : P.underlying ty = some d) (hd : (match d with | .struct _ | .array _ _ => true | _ => false) = true) (hi : (P.info? ty).map (·.size) = some cs.size) :
    (results fn tmps).run P w = .ok (.tuple #[.agg cs, v, u]) w := by
  have hp' : tmps[p]?.getD undef = .pointer (some ⟨g, 0, none⟩) := by simpa using hp
  have hq' : tmps[q]?.getD undef = v := by simpa using hq
  have hr' : tmps[r]?.getD undef = u := by simpa using hr
  simp [results, h, hp', hq', hr', asAddr, run_loadVar_row w g t ty cs fr d hg hu hd hi]

set_option maxRecDepth 100000 in
set_option maxHeartbeats 4000000 in
theorem restate_aw (X cap : Nat) (w : World) (h : EnAt w X [0, 1, 2, 3]) : Calls Tryz.prog 66 #[.agg #[.int .i64 0, .slice none 0 0], .slice (some ⟨X, 0, none⟩) 4 cap] w (RestPost w) := by
  have HX0 := Lib.hid h
  clear h
  go_enter Tryz.func66, Tryz.ntmps66
  go_upto_region 1 with (fail)
  obtain ⟨v0, hv⟩ : ∃ W, (w.alloc (.cells #[.int .i64 0, .slice none 0 0] 64)).alloc (.cells #[.int .i64 0, .slice none 0 0] 64) = W := ⟨_, rfl⟩
  have hb : Below w.heap.size w v0 := by rw [← hv]; exact (by (repeat' (first | (with_reducible exact Below.refl _ _) | (with_reducible refine Below.setCell ?_ ?_ _) | (with_reducible refine below_drewN ?_ _) | (with_reducible refine Below.drew ?_) | (with_reducible refine Below.alloc ?_ ?_ _))) <;> (first | omega | (simp <;> omega)))
  have HP : Hid (Has v0 w.heap.size led0 64) := Lib.hid (by rw [← hv]; exact (Has.new _ _ _).alloc _)
  have HR : Hid (Has v0 (w.heap.size + 1) led0 64) := Lib.hid (by rw [← hv]; exact Has.new' _ _ _ _ (by simp))
  have HZ : Hid (v0.heap.size = w.heap.size + 2) := Lib.hid (by rw [← hv]; simp)
  have HB := Lib.hid hb
  rw [hv]
  clear hb hv
  obtain ⟨P, hP⟩ : ∃ Q, w.heap.size = Q := ⟨_, rfl⟩
  obtain ⟨R, hR⟩ : ∃ Q, w.heap.size + 1 = Q := ⟨_, rfl⟩
  have HN0 : Hid (w.heap.size = P ∧ R = P + 1 ∧ P + 2 = v0.heap.size) := Lib.hid (by have := HZ.out; omega)
  rw [hR] at HR ⊢
  rw [hP] at HP ⊢
  clear hP hR HZ
  have p0 : v0.cell? ⟨P, 0, none⟩ = some (.int .i64 0) := HP.out.cell 0
  have p1 : v0.cell? ⟨P, 1, none⟩ = some (.slice none 0 0) := HP.out.cell 1
  go_wp2_with fail
  refine (lval_nil _).mono ?_
  rintro e w1 ⟨rfl, hb⟩
  replace HB := Lib.hid (HB.out.trans (hb.mono HB.out.size))
  replace HP := Lib.hid (HP.out.below hb HP.out.lt)
  replace HR := Lib.hid (HR.out.below hb HR.out.lt)
  have HN : Hid (w.heap.size = P ∧ R = P + 1 ∧ P + 2 ≤ w1.heap.size) := Lib.hid (by have := HN0.out; have := hb.size; omega)
  clear hb HN0 p0 p1
  have CC := Lib.hid (collect_four X cap w1 (HX0.out.below HB.out HX0.out.2))
  go_wp2_with fail
  refine CC.out.mono ?_
  rintro e v0 ⟨Z, cz, _, rfl, hz, hzb, hb⟩
  replace HB := Lib.hid (HB.out.trans (hb.mono HB.out.size))
  replace HP := Lib.hid (HP.out.below hb HP.out.lt)
  replace HR := Lib.hid (HR.out.below hb HR.out.lt)
  have HZ := Lib.hid hz
  replace HN : Hid (w.heap.size = P ∧ R = P + 1 ∧ P + 2 ≤ v0.heap.size ∧ P + 2 ≤ Z ∧ Z < v0.heap.size) := Lib.hid (by have := HN.out; have := hb.size; have := hz.2; omega)
  clear hb hz hzb CC
  go_wp2_with fail
  refine wp_loop_rounds 5 ?_
  rw [rounds_succ]
  have x0 : v0.cell? ⟨X, 0, none⟩ = some (.int .i64 1) := (HX0.out.below HB.out HX0.out.2).1 0 (by simp)
  have x1 : v0.cell? ⟨X, 1, none⟩ = some (.int .i64 0) := (HX0.out.below HB.out HX0.out.2).1 1 (by simp)
  have x2 : v0.cell? ⟨X, 2, none⟩ = some (.int .i64 0) := (HX0.out.below HB.out HX0.out.2).1 2 (by simp)
  have x3 : v0.cell? ⟨X, 3, none⟩ = some (.int .i64 7) := (HX0.out.below HB.out HX0.out.2).1 3 (by simp)
  have x4 : v0.cell? ⟨X, 4, none⟩ = some (.int .i64 15) := (HX0.out.below HB.out HX0.out.2).1 4 (by simp)
  have xl := (HX0.out.below HB.out HX0.out.2).2
  go_wp2_with fail
  refine (lrest_p0 _).mono ?_
  rintro e v1 ⟨rfl, hb⟩
  have hb1 : Below v0.heap.size v0 v1 := ((Below.refl _ _).alloc (Nat.le_refl _) _).trans (hb.mono (by simp))
  replace HB := Lib.hid (HB.out.trans (hb1.mono HB.out.size))
  replace HP := Lib.hid (HP.out.below hb1 HP.out.lt)
  replace HR := Lib.hid (HR.out.below hb1 HR.out.lt)
  replace HZ := Lib.hid (HZ.out.below hb1 HZ.out.2)
  clear hb hb1 x0 x1 x2 x3 x4 xl
  go_wp2_with fail
  rw [rounds_succ]
  have x0 : v1.cell? ⟨X, 5, none⟩ = some (.int .i64 1) := (HX0.out.below HB.out HX0.out.2).1 5 (by simp)
  have x1 : v1.cell? ⟨X, 6, none⟩ = some (.int .i64 1) := (HX0.out.below HB.out HX0.out.2).1 6 (by simp)
  have x2 : v1.cell? ⟨X, 7, none⟩ = some (.int .i64 2) := (HX0.out.below HB.out HX0.out.2).1 7 (by simp)
  have x3 : v1.cell? ⟨X, 8, none⟩ = some (.int .i64 7) := (HX0.out.below HB.out HX0.out.2).1 8 (by simp)
  have x4 : v1.cell? ⟨X, 9, none⟩ = some (.int .i64 15) := (HX0.out.below HB.out HX0.out.2).1 9 (by simp)
  have xl := (HX0.out.below HB.out HX0.out.2).2
  go_wp2_with fail
  refine (lrest_p1 _).mono ?_
  rintro e v2 ⟨rfl, hb⟩
  have hb1 : Below v1.heap.size v1 v2 := ((Below.refl _ _).alloc (Nat.le_refl _) _).trans (hb.mono (by simp))
  replace HB := Lib.hid (HB.out.trans (hb1.mono HB.out.size))
  replace HP := Lib.hid (HP.out.below hb1 HP.out.lt)
  replace HR := Lib.hid (HR.out.below hb1 HR.out.lt)
  replace HZ := Lib.hid (HZ.out.below hb1 HZ.out.2)
  clear hb hb1 x0 x1 x2 x3 x4 xl
  go_wp2_with fail
  rw [rounds_succ]
  have x0 : v2.cell? ⟨X, 10, none⟩ = some (.int .i64 2) := (HX0.out.below HB.out HX0.out.2).1 10 (by simp)
  have x1 : v2.cell? ⟨X, 11, none⟩ = some (.int .i64 0) := (HX0.out.below HB.out HX0.out.2).1 11 (by simp)
  have x2 : v2.cell? ⟨X, 12, none⟩ = some (.int .i64 0) := (HX0.out.below HB.out HX0.out.2).1 12 (by simp)
  have x3 : v2.cell? ⟨X, 13, none⟩ = some (.int .i64 7) := (HX0.out.below HB.out HX0.out.2).1 13 (by simp)
  have x4 : v2.cell? ⟨X, 14, none⟩ = some (.int .i64 35) := (HX0.out.below HB.out HX0.out.2).1 14 (by simp)
  have xl := (HX0.out.below HB.out HX0.out.2).2
  go_wp2_with fail
  refine (lrest_r0 _).mono ?_
  rintro e v3 ⟨rfl, hb⟩
  have hb1 : Below v2.heap.size v2 v3 := ((Below.refl _ _).alloc (Nat.le_refl _) _).trans (hb.mono (by simp))
  replace HB := Lib.hid (HB.out.trans (hb1.mono HB.out.size))
  replace HP := Lib.hid (HP.out.below hb1 HP.out.lt)
  replace HR := Lib.hid (HR.out.below hb1 HR.out.lt)
  replace HZ := Lib.hid (HZ.out.below hb1 HZ.out.2)
  clear hb hb1 x0 x1 x2 x3 x4 xl
  go_wp2_with fail
  rw [rounds_succ]
  have x0 : v3.cell? ⟨X, 15, none⟩ = some (.int .i64 2) := (HX0.out.below HB.out HX0.out.2).1 15 (by simp)
  have x1 : v3.cell? ⟨X, 16, none⟩ = some (.int .i64 1) := (HX0.out.below HB.out HX0.out.2).1 16 (by simp)
  have x2 : v3.cell? ⟨X, 17, none⟩ = some (.int .i64 2) := (HX0.out.below HB.out HX0.out.2).1 17 (by simp)
  have x3 : v3.cell? ⟨X, 18, none⟩ = some (.int .i64 7) := (HX0.out.below HB.out HX0.out.2).1 18 (by simp)
  have x4 : v3.cell? ⟨X, 19, none⟩ = some (.int .i64 35) := (HX0.out.below HB.out HX0.out.2).1 19 (by simp)
  have xl := (HX0.out.below HB.out HX0.out.2).2
  go_wp2_with fail
  refine (lrest_r1 _).mono ?_
  rintro e v4 ⟨rfl, hb⟩
  have hb1 : Below v3.heap.size v3 v4 := ((Below.refl _ _).alloc (Nat.le_refl _) _).trans (hb.mono (by simp))
  replace HB := Lib.hid (HB.out.trans (hb1.mono HB.out.size))
  replace HP := Lib.hid (HP.out.below hb1 HP.out.lt)
  replace HR := Lib.hid (HR.out.below hb1 HR.out.lt)
  replace HZ := Lib.hid (HZ.out.below hb1 HZ.out.2)
  clear hb hb1 x0 x1 x2 x3 x4 xl
  go_wp2_with fail
  rw [rounds_succ]
  replace HN : Hid (w.heap.size = P ∧ R = P + 1 ∧ P + 2 ≤ Z ∧ Z < v4.heap.size) := Lib.hid (by have := HN.out; have := HZ.out.2; omega)
  have p0 : v4.cell? ⟨P, 0, none⟩ = some (.int .i64 0) := HP.out.cell 0
  have p1 : v4.cell? ⟨P, 1, none⟩ = some (.slice none 0 0) := HP.out.cell 1
  have hw1 : IntKind.i64.wrap (0 + 1) = 1 := by decide
  go_wp2_with fail
  refine (totals_nil _).mono ?_
  rintro e w5 ⟨Y, rfl, hy, hyb, hb⟩
  replace HB := Lib.hid (HB.out.trans (hb.mono HB.out.size))
  replace HP := Lib.hid (HP.out.below hb HP.out.lt)
  replace HR := Lib.hid (HR.out.below hb HR.out.lt)
  replace HZ := Lib.hid (HZ.out.below hb HZ.out.2)
  replace HN : Hid (w.heap.size = P ∧ R = P + 1 ∧ P + 2 ≤ Z ∧ Z < w5.heap.size) := Lib.hid (by have := HN.out; have := HZ.out.2; omega)
  clear hb hy hyb p0 p1 hw1
  go_wp2_with fail
  refine wp_loop_rounds 1 ?_
  rw [rounds_succ]
  have p0 : w5.cell? ⟨P, 0, none⟩ = some (.int .i64 0) := HP.out.cell 0
  have p1 : w5.cell? ⟨P, 1, none⟩ = some (.slice none 0 0) := HP.out.cell 1
  have CC := Lib.hid (post_aw Z cz w5 HZ.out)
  go_wp2_with fail
  refine CC.out.mono ?_
  rintro e w6 ⟨g, cp, rfl, hg, hgb, hb⟩
  replace HB := Lib.hid (HB.out.trans (hb.mono HB.out.size))
  replace HP := Lib.hid (HP.out.below hb HP.out.lt)
  replace HR := Lib.hid (HR.out.below hb HR.out.lt)
  have HG := Lib.hid hg
  replace HN : Hid (w.heap.size = P ∧ R = P + 1 ∧ P + 2 ≤ g ∧ g < w6.heap.size) := Lib.hid (by have := HN.out; have := hg.2; omega)
  clear hb hg hgb p0 p1 CC HZ
  go_upto_region 26 with (fail)
  have hbk : Below w6.heap.size w6 (w6.alloc (.cells #[.int .i64 0, .slice (some ⟨g, 0, none⟩) 4 cp] 64)) := (Below.refl _ _).alloc (Nat.le_refl _) _
  have hk : Has (w6.alloc (.cells #[.int .i64 0, .slice (some ⟨g, 0, none⟩) 4 cp] 64)) w6.heap.size #[.int .i64 0, .slice (some ⟨g, 0, none⟩) 4 cp] 64 := Has.new _ _ _
  replace HR := Lib.hid (HR.out.below hbk HR.out.lt)
  replace HP := Lib.hid (HP.out.below hbk HP.out.lt)
  replace HG := Lib.hid (HG.out.below hbk)
  replace HB := Lib.hid (HB.out.trans (hbk.mono HB.out.size))
  obtain ⟨w7, hw⟩ : ∃ W, w6.alloc (.cells #[.int .i64 0, .slice (some ⟨g, 0, none⟩) 4 cp] 64) = W := ⟨_, rfl⟩
  obtain ⟨L, hL⟩ : ∃ Q, w6.heap.size = Q := ⟨_, rfl⟩
  replace HN : Hid (w.heap.size = P ∧ R = P + 1 ∧ P + 2 ≤ g ∧ g < L ∧ L < w7.heap.size) := Lib.hid (by have := HN.out; have := hk.lt; rw [← hw]; omega)
  rw [hw] at hk HR HP HG HB ⊢
  rw [hL] at hk ⊢
  have HL := Lib.hid hk
  clear hw hL hk hbk
  have HSV : Hid (∀ V, Leaves (fun k => k = R) w7 V → V.cell? ⟨L, 0, none⟩ = some (.int .i64 0) ∧ V.cell? ⟨L, 1, none⟩ = some (.slice (some ⟨g, 0, none⟩) 4 cp) ∧ V.cell? ⟨P, 1, none⟩ = some (.slice none 0 0)) := Lib.hid fun V hl => by
    have hn := HN.out
    exact ⟨(HL.out.leaves hl (by show ¬ L = R; omega)).cell 0, (HL.out.leaves hl (by show ¬ L = R; omega)).cell 1, (HP.out.leaves hl (by show ¬ P = R; omega)).cell 1⟩
  have CL : Hid (∀ V, Leaves (fun k => k = R) w7 V → Calls Tryz.prog 39 #[.slice (some ⟨g, 0, none⟩) 4 cp] V (RowM 4 7 101 (fun j => poL[j]!) V)) := Lib.hid fun V hl => clone_po ⟨g, 0, none⟩ 4 cp _ V (by omega) (by omega) (HG.out.leaves hl (by have := HN.out; show ¬ g = R; omega)).row (fun j hj => poL_one j hj)
  have HBB : Hid (Leaves (fun k => k = R) w7 w7.drew) := Lib.hid (Leaves.drew (Leaves.refl _ _))
  have r0 : w7.cell? ⟨R, 0, none⟩ = some (.int .i64 0) := HR.out.cell 0
  have r1 : w7.cell? ⟨R, 1, none⟩ = some (.slice none 0 0) := HR.out.cell 1
  have rf0 : w7.frozen? ⟨R, 0, none⟩ = false := HR.out.free _
  have rf1 : w7.frozen? ⟨R, 1, none⟩ = false := HR.out.free _
  have rl := HR.out.lt
  go_region_held3 (fun V => V.cell? ⟨L, 0, none⟩ = some (.int .i64 0) ∧ V.cell? ⟨L, 1, none⟩ = some (.slice (some ⟨g, 0, none⟩) 4 cp) ∧ V.cell? ⟨P, 1, none⟩ = some (.slice none 0 0)) (first | exact HSV.out _ HBB.out | exact HSV.out _ ((HBB.out.at _ _).at _ _)) (first
    | (go_at_call 39; refine (CL.out _ ?hh).mono ?_; (case hh => first | exact HBB.out | exact ((HBB.out.at _ _).at _ _)); rintro e w8 ⟨C, cc, rfl, _, hb8⟩; (try have s0 : w8.cell? ⟨R, 0, none⟩ = some (.int .i64 0) := (HR.out.drew.below hb8 rl).cell 0); (try have s1 : w8.cell? ⟨R, 1, none⟩ = some (.slice none 0 0) := (HR.out.drew.below hb8 rl).cell 1); (try have sf0 : w8.frozen? ⟨R, 0, none⟩ = false := (HR.out.drew.below hb8 rl).free 0); (try have sf1 : w8.frozen? ⟨R, 1, none⟩ = false := (HR.out.drew.below hb8 rl).free 1); (try have sl : R < w8.heap.size := (HR.out.drew.below hb8 rl).lt); first | replace HBB : Hid (Leaves (fun k => k = R) w7 w8) := Lib.hid (HBB.out.step hb8) | replace HBB : Hid (Leaves (fun k => k = R) w7 w8) := Lib.hid (((HBB.out.at _ _).at _ _).step hb8); clear hb8))
  have hl9 : Leaves (fun k => k = R) w7 ((w8.setCell ⟨R, 0, none⟩ (.int .i64 0)).setCell ⟨R, 1, none⟩ (.slice (some ⟨g, 0, none⟩) 4 cp)) := (HBB.out.at _ _).at _ _
  have hr9 : Has ((w8.setCell ⟨R, 0, none⟩ (.int .i64 0)).setCell ⟨R, 1, none⟩ (.slice (some ⟨g, 0, none⟩) 4 cp)) R #[.int .i64 0, .slice (some ⟨g, 0, none⟩) 4 cp] 64 := ((HR.out.drew.below hb8 rl).put 0 _).put 1 _
  clear HBB CL HSV s0 s1 sf0 sf1 sl r0 r1 rf0 rf1 hb8
  go_wp2_with fail
  refine bodyPost_ret (results_cell_tmp2 rfl _ _ R _ #[.int .i64 0, .slice (some ⟨g, 0, none⟩) 4 cp] _ _ (.slice (some ⟨C, 0, none⟩) 4 cc) (.int .i64 0) ?_ ?_ ?_ hr9 Tryz.underlying64 rfl led_info0) rfl ?_
  · rfl
  · rfl
  · rfl
  exact ⟨g, cp, _, rfl, HG.out.leaves hl9 (by have := HN.out; show ¬ g = R; omega), by have := HN.out; omega, HB.out.trans (hl9.new_or (by have := HN.out; omega) HB.out.size)⟩
end Go.Proofs.YtbeikfopneeodaaGreat
