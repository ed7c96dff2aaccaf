/- office.copiedProgramme at the example. -/
import Derived.Test.YtbeikfopneeodaaGreatMt03
import Derived.Test.YtbeikfopneeodaaGreatMt12
namespace Go.Proofs.YtbeikfopneeodaaGreat
open Go.RowKit
set_option linter.unusedVariables false

set_option maxRecDepth 100000 in
theorem mk_treaty1 (w : World) : (Instr.makeSlice 55 (.int .i64 1) (.int .i64 1)).run Tryz.prog w = .ok (.slice (some ⟨w.heap.size, 0, none⟩) 1 1) (w.alloc (.cells zeroT 54)) := by kernel_rfl

theorem part_cells {w : World} {b : Nat} (h : PartAt w w.heap.size b) : Cells w w.heap.size (some ⟨b, 0, none⟩) (1 * 2) (pairAt (fun _ => 2) (fun _ => 1000000)) := h
theorem part_own {w : World} {base b cap : Nat} (h : Own w base b 1 cap 2 51 (pairAt (fun _ => 2) (fun _ => 1000000))) : PartAt w w.heap.size b := h.cells
/-- a programme's zero -/
def zeroP : Array Value := #[.int .i64 0, .slice none 0 0, .slice none 0 0, .slice none 0 0]
theorem has_put_eq {w : World} {b i : Nat} {cs cs' : Array Value} {t : TypeId} {u : Value} (h : Has w b cs t) (e : cs.setIfInBounds i u = cs') : Has (w.setCell ⟨b, i, none⟩ u) b cs' t := e ▸ h.put i u
theorem setCell_leaves {w : World} {b i : Nat} (u : Value) : Leaves (fun k => k = b) w (w.setCell ⟨b, i, none⟩ u) := Leaves.one w b i u
theorem Leaves.new_or {w w' : World} {B b : Nat} (h : Leaves (fun k => k = b) w w') (hb : B ≤ b) (hB : B ≤ w.heap.size) : Below B w w' := h.below (fun k (hk : k = b) => by omega) hB

theorem Leaves.at {a w : World} {b : Nat} (h : Leaves (fun k => k = b) a w) (i : Nat) (u : Value) : Leaves (fun k => k = b) a (w.setCell ⟨b, i, none⟩ u) := Leaves.put (S := fun k => k = b) (p := ⟨b, i, none⟩) h (.inl rfl) u
theorem pairAt_one (f g : Nat → Int) (j : Nat) : (pairAt f g j).oneCell' = true := by
  unfold pairAt
  split <;> rfl
theorem results_cell {P : Program} {fn : Func} {p : Tmp} {ty : TypeId} (h : fn.results = #[.cell p ty]) (tmps : Array Value) (w : World) (g : Nat) (t : TypeId) (cs : Array Value) (fr : Nat × Nat) (d : TypeDesc)
    (hp : tmps.getD p undef = .pointer (some ⟨g, 0, none⟩)) (hg : w.heap[g]? = some (.cells cs t fr))
    (hu : P.underlying ty = some d) (hd : (match d with | .struct _ | .array _ _ => true | _ => false) = true) (hi : (P.info? ty).map (·.size) = some cs.size) :
    (results fn tmps).run P w = .ok (.agg cs) w := by
  have hp' : tmps[p]?.getD undef = .pointer (some ⟨g, 0, none⟩) := by simpa using hp
  simp [results, h, hp', asAddr, run_loadVar_row w g t ty cs fr d hg hu hd hi]

set_option maxRecDepth 100000 in
set_option maxHeartbeats 2000000 in
theorem copiedp_aw (g b c c' : Nat) (w : World) (h : TrAt w g b c) : Calls Tryz.prog 40 #[.agg (awP g c')] w
    fun e w' => ∃ g2 b2 c2, e = .returned (.agg (awP g2 1)) ∧ TrAt w' g2 b2 c2 ∧ w.heap.size ≤ g2 ∧ w.heap.size ≤ b2 ∧ b2 < w'.heap.size ∧ Below w.heap.size w w' := by
  have HT0 := Lib.hid h
  have HGB : Hid (g < w.heap.size ∧ b < w.heap.size) := Lib.hid ⟨h.box.lt, by
    obtain ⟨ad, e, hlt, _⟩ := part_cells h.part (by omega)
    injection e with e
    subst e
    exact hlt⟩
  have HTI := Lib.hid (awC_info (b := b) (c := c) ty_info rfl)
  clear h
  unfold awP
  go_enter Tryz.func40, Tryz.ntmps40
  have hmk := mk_treaty1
  go_upto_region 2 with (fail)
  clear hmk
  obtain ⟨v0, hv⟩ : ∃ W, ((w.alloc (.cells #[.int .i64 0, .slice (some ⟨g, 0, none⟩) 1 c', .slice none 0 0, .slice none 0 0] 59)).alloc (.cells #[.int .i64 0, .slice none 0 0, .slice none 0 0, .slice none 0 0] 59)).alloc (.cells zeroT 54) = W := ⟨_, rfl⟩
  have hb : Below w.heap.size w v0 := by rw [← hv]; exact (by (repeat' (first | (with_reducible exact Below.refl _ _) | (with_reducible refine Below.setCell ?_ ?_ _) | (with_reducible refine below_drewN ?_ _) | (with_reducible refine Below.drew ?_) | (with_reducible refine Below.alloc ?_ ?_ _))) <;> (first | omega | (simp <;> omega)))
  have HP : Hid (Has v0 w.heap.size (awP g c') 59) := Lib.hid (by rw [← hv]; exact ((Has.new _ _ _).alloc _).alloc _)
  have HR : Hid (Has v0 (w.heap.size + 1) zeroP 59) := Lib.hid (by rw [← hv]; exact (Has.new' _ _ _ _ (by simp)).alloc _)
  have HQ : Hid (Has v0 (w.heap.size + 1 + 1) zeroT 54) := Lib.hid (by rw [← hv]; exact Has.new' _ _ _ _ (by simp))
  have HZ : Hid (v0.heap.size = w.heap.size + 3) := Lib.hid (by rw [← hv]; simp)
  have HB := Lib.hid hb
  rw [hv]
  clear hv hb
  obtain ⟨P, hP⟩ : ∃ Q, w.heap.size = Q := ⟨_, rfl⟩
  obtain ⟨R, hR⟩ : ∃ Q, w.heap.size + 1 = Q := ⟨_, rfl⟩
  obtain ⟨Q, hQ⟩ : ∃ Q, w.heap.size + 1 + 1 = Q := ⟨_, rfl⟩
  have HN : Hid (w.heap.size = P ∧ R = P + 1 ∧ Q = P + 2 ∧ v0.heap.size = P + 3) := Lib.hid (by have := HZ.out; omega)
  rw [hQ] at HQ ⊢
  rw [hR] at HR ⊢
  rw [hP] at HP ⊢
  clear hP hR hQ HZ
  have p1 : v0.cell? ⟨P, 1, none⟩ = some (.slice (some ⟨g, 0, none⟩) 1 c') := HP.out.cell 1
  go_wp2_with fail
  refine wp_loop_rounds 2 ?_
  rw [rounds_succ]
  go_upto_region 5 with (first
    | (refine wpList_load_has ?_ 54 (.tmp 16) ?_ g ?_ _ (awC b c) _ (HT0.out.later HB.out).box Tryz.underlying54 ?_ HTI.out ?_; rfl; rfl; rfl; rfl)
    | (refine wpList_store_has ?_ 54 (.tmp 5) (.tmp 17) ?_ v0.heap.size ?_ (awC b c) ?_ _ _ (Has.new v0 zeroT _) HTI.out ?_ ?_ ?_; rfl; rfl; rfl; rfl; rfl; rfl; intro w1 hh hl))
  have hb1 : Below v0.heap.size v0 w1 := ((Below.refl _ _).alloc (Nat.le_refl _) _).trans (hl.below (fun k (hk : k = v0.heap.size) => by omega) (by simp))
  have HH := Lib.hid hh
  have HN2 : Hid (v0.heap.size < w1.heap.size) := Lib.hid hh.lt
  replace HB := Lib.hid (HB.out.trans (hb1.mono HB.out.size))
  replace HP := Lib.hid (HP.out.below hb1 HP.out.lt)
  replace HR := Lib.hid (HR.out.below hb1 HR.out.lt)
  replace HQ := Lib.hid (HQ.out.below hb1 HQ.out.lt)
  obtain ⟨T, hT⟩ : ∃ Q, v0.heap.size = Q := ⟨_, rfl⟩
  have HNT : Hid (T = P + 3 ∧ w.heap.size = P ∧ R = P + 1 ∧ Q = P + 2 ∧ T < w1.heap.size) := Lib.hid (by
    obtain ⟨n1, n2, n3, n4⟩ := HN.out
    have := HN2.out
    omega)
  rw [hT] at HH ⊢
  clear hb1 hh hl p1 hT HN HN2
  have t4 : w1.cell? ⟨T, 4, none⟩ = some (.slice none 0 0) := HH.out.cell 4
  have tf4 : w1.frozen? ⟨T, 4, none⟩ = false := HH.out.free _
  have t5 : w1.cell? ⟨T, 5, none⟩ = some (.slice none 0 0) := HH.out.cell 5
  have tf5 : w1.frozen? ⟨T, 5, none⟩ = false := HH.out.free _
  have t16 : w1.cell? ⟨T, 16, none⟩ = some (.slice none 0 0) := HH.out.cell 16
  have tf16 : w1.frozen? ⟨T, 16, none⟩ = false := HH.out.free _
  have t19 : w1.cell? ⟨T, 19, none⟩ = some (.slice none 0 0) := HH.out.cell 19
  have tf19 : w1.frozen? ⟨T, 19, none⟩ = false := HH.out.free _
  have t20 : w1.cell? ⟨T, 20, none⟩ = some (.slice (some ⟨b, 0, none⟩) 1 c) := HH.out.cell 20
  have tf20 : w1.frozen? ⟨T, 20, none⟩ = false := HH.out.free _
  have tl := HH.out.lt
  go_wp2_with fail
  refine (Tryz.slices_Clone_int_nil _ _ _).mono ?_
  rintro e w' ⟨rfl, hw'⟩
  obtain rfl := hw'.symm
  go_wp2_with fail
  refine (Tryz.slices_Clone_int_nil _ _ _).mono ?_
  rintro e w' ⟨rfl, hw'⟩
  obtain rfl := hw'.symm
  go_wp2_with fail
  refine (Tryz.slices_Clone_int_nil _ _ _).mono ?_
  rintro e w' ⟨rfl, hw'⟩
  obtain rfl := hw'.symm
  go_wp2_with fail
  refine (Tryz.slices_Clone_int_nil _ _ _).mono ?_
  rintro e w' ⟨rfl, hw'⟩
  obtain rfl := hw'.symm
  go_upto_region 9 with (fail)
  obtain ⟨w5, hw⟩ : ∃ W, (((w1.setCell ⟨T, 4, none⟩ (.slice none 0 0)).setCell ⟨T, 5, none⟩ (.slice none 0 0)).setCell ⟨T, 16, none⟩ (.slice none 0 0)).setCell ⟨T, 19, none⟩ (.slice none 0 0) = W := ⟨_, rfl⟩
  have hl : Leaves (fun k => k = T) w1 w5 := by rw [← hw]; exact ((((Leaves.refl (fun k => k = T) _).at _ _).at _ _).at _ _).at _ _
  have HH5 : Hid (Has w5 T (awC b c) 54) := Lib.hid (by rw [← hw]; exact has_put_eq (has_put_eq (has_put_eq (has_put_eq HH.out (cs' := awC b c) rfl) (cs' := awC b c) rfl) (cs' := awC b c) rfl) rfl)
  replace HB := Lib.hid (HB.out.trans (hl.new_or (by have := HNT.out; omega) HB.out.size))
  replace HP := Lib.hid (HP.out.leaves hl (by have := HNT.out; show ¬ P = T; omega))
  replace HR := Lib.hid (HR.out.leaves hl (by have := HNT.out; show ¬ R = T; omega))
  replace HQ := Lib.hid (HQ.out.leaves hl (by have := HNT.out; show ¬ Q = T; omega))
  replace HNT : Hid (T = P + 3 ∧ w.heap.size = P ∧ R = P + 1 ∧ Q = P + 2 ∧ T < w5.heap.size) := Lib.hid (by have := HNT.out; have := hl.size; omega)
  rw [hw]
  clear hw hl HH t4 t5 t16 t19 t20 tf4 tf5 tf16 tf19 tf20 tl
  have t20 : w5.cell? ⟨T, 20, none⟩ = some (.slice (some ⟨b, 0, none⟩) 1 c) := HH5.out.cell 20
  have tf : w5.frozen? ⟨T, 20, none⟩ = false := HH5.out.free _
  have tl := HH5.out.lt
  have CP := Lib.hid (clone_pa ⟨b, 0, none⟩ 1 c _ w5 (by omega) (by omega) (part_cells (HT0.out.later HB.out).part) (fun j hj => pairAt_one _ _ j))
  go_wp2_with fail
  refine CP.out.mono ?_
  rintro e w6 ⟨b2, c2, rfl, ho, hb6⟩
  replace HB := Lib.hid (HB.out.trans (hb6.mono HB.out.size))
  replace HP := Lib.hid (HP.out.below hb6 HP.out.lt)
  replace HR := Lib.hid (HR.out.below hb6 HR.out.lt)
  replace HQ := Lib.hid (HQ.out.below hb6 HQ.out.lt)
  replace HH5 := Lib.hid (HH5.out.below hb6 HH5.out.lt)
  have HO := Lib.hid ho
  have HN6 : Hid (T = P + 3 ∧ w.heap.size = P ∧ R = P + 1 ∧ Q = P + 2 ∧ T < b2) := Lib.hid (by have := HNT.out; have := ho.base_le; omega)
  clear ho hb6 CP t20 tf tl HNT
  have t20 : w6.cell? ⟨T, 20, none⟩ = some (.slice (some ⟨b, 0, none⟩) 1 c) := HH5.out.cell 20
  have tf : w6.frozen? ⟨T, 20, none⟩ = false := HH5.out.free _
  have tl := HH5.out.lt
  go_upto_region 10 with (fail)
  obtain ⟨w7, hw⟩ : ∃ W, w6.setCell ⟨T, 20, none⟩ (.slice (some ⟨b2, 0, none⟩) 1 c2) = W := ⟨_, rfl⟩
  have hl : Leaves (fun k => k = T) w6 w7 := by rw [← hw]; exact (Leaves.refl (fun k => k = T) _).at _ _
  have HH7 : Hid (Has w7 T (awC b2 c2) 54) := Lib.hid (by rw [← hw]; exact has_put_eq HH5.out rfl)
  replace HB := Lib.hid (HB.out.trans (hl.new_or (by have := HN6.out; omega) HB.out.size))
  replace HP := Lib.hid (HP.out.leaves hl (by have := HN6.out; show ¬ P = T; omega))
  replace HR := Lib.hid (HR.out.leaves hl (by have := HN6.out; show ¬ R = T; omega))
  replace HQ := Lib.hid (HQ.out.leaves hl (by have := HN6.out; show ¬ Q = T; omega))
  replace HO := Lib.hid (HO.out.of_block (hl.block b2 HO.out.lt (by have := HN6.out; show ¬ b2 = T; omega)))
  rw [hw]
  clear hw hl HH5 t20 tf tl
  have HTI2 := Lib.hid (awC_info (b := b2) (c := c2) ty_info rfl)
  go_upto_region 11 with (first
    | (refine wpList_load_has ?_ 54 (.tmp 5) ?_ T ?_ _ (awC b2 c2) _ HH7.out Tryz.underlying54 ?_ HTI2.out ?_; rfl; rfl; rfl; rfl)
    | (refine wpList_store_has ?_ 54 (.tmp 41) (.tmp 40) ?_ Q ?_ (awC b2 c2) ?_ _ _ HQ.out HTI2.out ?_ ?_ ?_; rfl; rfl; rfl; rfl; rfl; rfl; intro w8 hh hl))
  replace HB := Lib.hid (HB.out.trans (hl.new_or (by have := HN6.out; omega) HB.out.size))
  replace HP := Lib.hid (HP.out.leaves hl (by have := HN6.out; show ¬ P = Q; omega))
  replace HR := Lib.hid (HR.out.leaves hl (by have := HN6.out; show ¬ R = Q; omega))
  replace HQ := Lib.hid hh
  replace HO := Lib.hid (HO.out.of_block (hl.block b2 HO.out.lt (by have := HN6.out; show ¬ b2 = Q; omega)))
  clear hh hl HH7
  go_wp2_with fail
  rw [rounds_succ]
  have p1 : w8.cell? ⟨P, 1, none⟩ = some (.slice (some ⟨g, 0, none⟩) 1 c') := HP.out.cell 1
  have p2 : w8.cell? ⟨P, 2, none⟩ = some (.slice none 0 0) := HP.out.cell 2
  have p3 : w8.cell? ⟨P, 3, none⟩ = some (.slice none 0 0) := HP.out.cell 3
  have pf1 : w8.frozen? ⟨P, 1, none⟩ = false := HP.out.free _
  have pf2 : w8.frozen? ⟨P, 2, none⟩ = false := HP.out.free _
  have pf3 : w8.frozen? ⟨P, 3, none⟩ = false := HP.out.free _
  have pl := HP.out.lt
  go_wp2_with fail
  refine (clone_nil_Index _).mono ?_
  rintro e w' ⟨rfl, rfl⟩
  go_wp2_with fail
  refine (clone_nil_Rate _).mono ?_
  rintro e w' ⟨rfl, rfl⟩
  go_upto_region 15 with (fail)
  obtain ⟨w9, hw⟩ : ∃ W, ((w8.setCell ⟨P, 1, none⟩ (.slice (some ⟨Q, 0, none⟩) 1 1)).setCell ⟨P, 2, none⟩ (.slice none 0 0)).setCell ⟨P, 3, none⟩ (.slice none 0 0) = W := ⟨_, rfl⟩
  have hl : Leaves (fun k => k = P) w8 w9 := by rw [← hw]; exact (((Leaves.refl (fun k => k = P) _).at _ _).at _ _).at _ _
  have HP9 : Hid (Has w9 P (awP Q 1) 59) := Lib.hid (by rw [← hw]; exact has_put_eq (has_put_eq (has_put_eq HP.out (cs' := awP Q 1) rfl) (cs' := awP Q 1) rfl) rfl)
  replace HB := Lib.hid (HB.out.trans (hl.new_or (by have := HN6.out; omega) HB.out.size))
  replace HR := Lib.hid (HR.out.leaves hl (by have := HN6.out; show ¬ R = P; omega))
  replace HQ := Lib.hid (HQ.out.leaves hl (by have := HN6.out; show ¬ Q = P; omega))
  replace HO := Lib.hid (HO.out.of_block (hl.block b2 HO.out.lt (by have := HN6.out; show ¬ b2 = P; omega)))
  rw [hw]
  clear hw hl HP p1 p2 p3 pf1 pf2 pf3 pl
  have HPI := Lib.hid (prog_info Q 1)
  go_wp2_with (first
    | (refine wpList_load_has ?_ 59 (.tmp 1) ?_ P ?_ _ (awP Q 1) _ HP9.out Tryz.underlying59 ?_ HPI.out ?_; rfl; rfl; rfl; rfl)
    | (refine wpList_store_has ?_ 59 (.tmp 2) (.tmp 53) ?_ R ?_ (awP Q 1) ?_ _ _ HR.out HPI.out ?_ ?_ ?_; rfl; rfl; rfl; rfl; rfl; rfl; intro w10 hh hl))
  replace HB := Lib.hid (HB.out.trans (hl.new_or (by have := HN6.out; omega) HB.out.size))
  replace HQ := Lib.hid (HQ.out.leaves hl (by have := HN6.out; show ¬ Q = R; omega))
  replace HO := Lib.hid (HO.out.of_block (hl.block b2 HO.out.lt (by have := HN6.out; show ¬ b2 = R; omega)))
  refine bodyPost_ret (results_cell rfl _ _ R _ (awP Q 1) _ _ ?_ hh Tryz.underlying59 rfl HPI.out) rfl ?_
  · rfl
  exact ⟨Q, b2, c2, rfl, ⟨HQ.out, part_own HO.out⟩, by have := HN6.out; omega, by have := HN6.out; omega, HO.out.lt, HB.out⟩
end Go.Proofs.YtbeikfopneeodaaGreat
