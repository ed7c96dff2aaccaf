/- office.copied at the example: an office with no list of bordereaux, and one with sixteen empty ones. -/
import Derived.Test.YtbeikfopneeodaaGreatMt13
namespace Go.Proofs.YtbeikfopneeodaaGreat
open Go.RowKit
set_option linter.unusedVariables false

/-- an office with nothing but its programme -/
def offC (g c : Nat) (out : Value) : Array Value := #[.int .i64 0, .slice (some ⟨g, 0, none⟩) 1 c, .slice none 0 0, .slice none 0 0, .slice none 0 0, .slice none 0 0, .int .i64 0, .slice none 0 0, out]
def offZ : Array Value := #[.int .i64 0, .slice none 0 0, .slice none 0 0, .slice none 0 0, .slice none 0 0, .slice none 0 0, .int .i64 0, .slice none 0 0, .slice none 0 0]
/-- sixteen empty lists -/
def nil16 : Array Value := Array.replicate 16 (.slice none 0 0)
theorem nil16_at {k : Nat} (h : k < 16) : nil16[k]? = some (.slice none 0 0) := by simp [nil16, h]
theorem nil16_put (k : Nat) : nil16.setIfInBounds k (.slice none 0 0) = nil16 := by
  apply Array.ext_getElem?
  intro i
  rw [Array.getElem?_setIfInBounds]
  by_cases h : k = i
  · subst h
    by_cases hk : k < 16
    · simp [nil16, hk]
    · simp [nil16, hk]
  · rw [if_neg h]
set_option maxRecDepth 100000 in
theorem mk_out0 (w : World) : (Instr.makeSlice 65 (.int .i64 (max 0 16)) (.int .i64 (max 0 16))).run Tryz.prog w = .ok (.slice (some ⟨w.heap.size, 0, none⟩) 16 16) (w.alloc (.cells nil16 75)) := by kernel_rfl
set_option maxRecDepth 100000 in
theorem mk_out16 (w : World) : (Instr.makeSlice 65 (.int .i64 16) (.int .i64 16)).run Tryz.prog w = .ok (.slice (some ⟨w.heap.size, 0, none⟩) 16 16) (w.alloc (.cells nil16 75)) := by kernel_rfl
set_option maxRecDepth 100000 in
theorem off_info0 : (Tryz.prog.info? 67).map (·.size) = some 9 := by kernel_rfl
theorem off_info (g c : Nat) (v : Value) : (Tryz.prog.info? 67).map (·.size) = some (offC g c v).size := off_info0
theorem leaves_of {w w' : World} {T : Nat → Prop} (hb : Below w.heap.size w w') : Leaves T w w' := ⟨hb.os, hb.tape, hb.output, hb.size, fun k hk _ => hb.block k hk⟩

theorem TrAt.leaves {w w' : World} {g b c : Nat} {T : Nat → Prop} (h : TrAt w g b c) (hl : Leaves T w w') (hg : ¬ T g) (hb : ¬ T b) : TrAt w' g b c := ⟨h.box.leaves hl hg, Cells.leaves h.part hl (fun ad e => by injection e with e; subst e; exact hb)⟩
/-- what copied gives -/
def CopPost (w : World) (e : Ending) (w' : World) : Prop := ∃ g2 b2 c2 O, e = .returned (.agg (offC g2 1 (.slice (some ⟨O, 0, none⟩) 16 16))) ∧ TrAt w' g2 b2 c2 ∧ Has w' O nil16 75 ∧ (w.heap.size ≤ g2 ∧ w.heap.size ≤ b2 ∧ w.heap.size ≤ O ∧ g2 ≠ O ∧ b2 ≠ O) ∧ b2 < w'.heap.size ∧ Below w.heap.size w w'

set_option maxRecDepth 100000 in
set_option maxHeartbeats 4000000 in
theorem copied_new (g b c c' : Nat) (w : World) (h : TrAt w g b c) : Calls Tryz.prog 26 #[.agg (offC g c' (.slice none 0 0))] w (CopPost w) := by
  have HT0 := Lib.hid h
  clear h
  unfold offC
  go_enter Tryz.func26, Tryz.ntmps26
  have hmk := mk_out0
  go_upto_region 2 with (fail)
  clear hmk
  obtain ⟨v0, hv⟩ : ∃ W, ((w.alloc (.cells #[.int .i64 0, .slice (some ⟨g, 0, none⟩) 1 c', .slice none 0 0, .slice none 0 0, .slice none 0 0, .slice none 0 0, .int .i64 0, .slice none 0 0, .slice none 0 0] 67)).alloc (.cells offZ 67)).alloc (.cells nil16 75) = W := ⟨_, rfl⟩
  have hb : Below w.heap.size w v0 := by rw [← hv]; exact (by (repeat' (first | (with_reducible exact Below.refl _ _) | (with_reducible refine Below.setCell ?_ ?_ _) | (with_reducible refine below_drewN ?_ _) | (with_reducible refine Below.drew ?_) | (with_reducible refine Below.alloc ?_ ?_ _))) <;> (first | omega | (simp <;> omega)))
  have HP : Hid (Has v0 w.heap.size (offC g c' (.slice none 0 0)) 67) := Lib.hid (by rw [← hv]; exact ((Has.new _ _ _).alloc _).alloc _)
  have HR : Hid (Has v0 (w.heap.size + 1) offZ 67) := Lib.hid (by rw [← hv]; exact (Has.new' _ _ _ _ (by simp)).alloc _)
  have HM : Hid (Has v0 (w.heap.size + 1 + 1) nil16 75) := Lib.hid (by rw [← hv]; exact Has.new' _ _ _ _ (by simp))
  have HZ : Hid (v0.heap.size = w.heap.size + 3) := Lib.hid (by rw [← hv]; simp)
  have HB := Lib.hid hb
  unfold offZ at hv
  rw [hv]
  clear hv hb
  obtain ⟨P, hP⟩ : ∃ Q, w.heap.size = Q := ⟨_, rfl⟩
  obtain ⟨R, hR⟩ : ∃ Q, w.heap.size + 1 = Q := ⟨_, rfl⟩
  obtain ⟨M, hM⟩ : ∃ Q, w.heap.size + 1 + 1 = Q := ⟨_, rfl⟩
  have HN : Hid (w.heap.size = P ∧ R = P + 1 ∧ M = P + 2 ∧ v0.heap.size = P + 3) := Lib.hid (by have := HZ.out; omega)
  rw [hM] at HM ⊢
  rw [hR] at HR ⊢
  rw [hP] at HP ⊢
  clear hP hR hM HZ
  have p8 : v0.cell? ⟨P, 8, none⟩ = some (.slice none 0 0) := HP.out.cell 8
  go_wp2_with fail
  refine wp_loop_rounds 1 ?_
  rw [rounds_succ]
  clear p8
  obtain ⟨v1, hv1⟩ : ∃ W, v0 = W := ⟨_, rfl⟩
  have HN : Hid (w.heap.size = P ∧ R = P + 1 ∧ M = P + 2 ∧ P + 3 ≤ v1.heap.size) := Lib.hid (by have := HN.out; rw [← hv1]; omega)
  rw [hv1] at HP HR HM HB ⊢
  clear hv1
  have p0 : v1.cell? ⟨P, 0, none⟩ = some (.int .i64 0) := HP.out.cell 0
  have p1 : v1.cell? ⟨P, 1, none⟩ = some (.slice (some ⟨g, 0, none⟩) 1 c') := HP.out.cell 1
  have p2 : v1.cell? ⟨P, 2, none⟩ = some (.slice none 0 0) := HP.out.cell 2
  have p3 : v1.cell? ⟨P, 3, none⟩ = some (.slice none 0 0) := HP.out.cell 3
  have CP := Lib.hid (copiedp_aw g b c c' v1 (HT0.out.later HB.out))
  unfold awP at CP
  go_wp2_with fail
  refine CP.out.mono ?_
  rintro e w1 ⟨g2, b2, c2, rfl, hT2, hg2, hb2, hb2l, hb⟩
  have HT2 := Lib.hid hT2
  have HPN : Hid (P < v1.heap.size ∧ R < v1.heap.size ∧ M < v1.heap.size) := Lib.hid ⟨HP.out.lt, HR.out.lt, HM.out.lt⟩
  have HN2 : Hid (w.heap.size = P ∧ R = P + 1 ∧ M = P + 2 ∧ P + 3 ≤ g2 ∧ P + 3 ≤ b2 ∧ b2 < w1.heap.size) := Lib.hid (by have := HN.out; have := HPN.out; omega)
  replace HB := Lib.hid (HB.out.trans (hb.mono HB.out.size))
  replace HP := Lib.hid (HP.out.below hb HP.out.lt)
  replace HR := Lib.hid (HR.out.below hb HR.out.lt)
  replace HM := Lib.hid (HM.out.below hb HM.out.lt)
  clear p0 p1 p2 p3 CP hT2 hg2 hb2 hb2l hb HN HPN
  have p0 : w1.cell? ⟨P, 0, none⟩ = some (.int .i64 0) := HP.out.cell 0
  have p1 : w1.cell? ⟨P, 1, none⟩ = some (.slice (some ⟨g, 0, none⟩) 1 c') := HP.out.cell 1
  have p2 : w1.cell? ⟨P, 2, none⟩ = some (.slice none 0 0) := HP.out.cell 2
  have p3 : w1.cell? ⟨P, 3, none⟩ = some (.slice none 0 0) := HP.out.cell 3
  have p4 : w1.cell? ⟨P, 4, none⟩ = some (.slice none 0 0) := HP.out.cell 4
  have p5 : w1.cell? ⟨P, 5, none⟩ = some (.slice none 0 0) := HP.out.cell 5
  have p7 : w1.cell? ⟨P, 7, none⟩ = some (.slice none 0 0) := HP.out.cell 7
  have p8 : w1.cell? ⟨P, 8, none⟩ = some (.slice none 0 0) := HP.out.cell 8
  have pf0 : w1.frozen? ⟨P, 0, none⟩ = false := HP.out.free _
  have pf1 : w1.frozen? ⟨P, 1, none⟩ = false := HP.out.free _
  have pf2 : w1.frozen? ⟨P, 2, none⟩ = false := HP.out.free _
  have pf3 : w1.frozen? ⟨P, 3, none⟩ = false := HP.out.free _
  have pf4 : w1.frozen? ⟨P, 4, none⟩ = false := HP.out.free _
  have pf5 : w1.frozen? ⟨P, 5, none⟩ = false := HP.out.free _
  have pf7 : w1.frozen? ⟨P, 7, none⟩ = false := HP.out.free _
  have pf8 : w1.frozen? ⟨P, 8, none⟩ = false := HP.out.free _
  have pl := HP.out.lt
  go_wp2_with fail
  refine (clone_nil_Loss _).mono ?_
  rintro e w' ⟨rfl, rfl⟩
  go_wp2_with fail
  refine (clone_nil_End _).mono ?_
  rintro e w' ⟨rfl, rfl⟩
  go_wp2_with fail
  refine (clone_nil_Posting _).mono ?_
  rintro e w' ⟨rfl, rfl⟩
  go_upto_region 17 with (fail)
  obtain ⟨w5, hw⟩ : ∃ W, (((((((w1.setCell ⟨P, 0, none⟩ (.int .i64 0)).setCell ⟨P, 1, none⟩ (.slice (some ⟨g2, 0, none⟩) 1 1)).setCell ⟨P, 2, none⟩ (.slice none 0 0)).setCell ⟨P, 3, none⟩ (.slice none 0 0)).setCell ⟨P, 4, none⟩ (.slice none 0 0)).setCell ⟨P, 5, none⟩ (.slice none 0 0)).setCell ⟨P, 7, none⟩ (.slice none 0 0)).setCell ⟨P, 8, none⟩ (.slice (some ⟨M, 0, none⟩) 16 16) = W := ⟨_, rfl⟩
  have hl : Leaves (fun k => k = P) w1 w5 := by rw [← hw]; exact ((((((((Leaves.refl (fun k => k = P) _).at _ _).at _ _).at _ _).at _ _).at _ _).at _ _).at _ _).at _ _
  have hp5 : Has w5 P (offC g2 1 (.slice (some ⟨M, 0, none⟩) 16 16)) 67 := by rw [← hw]; exact (((((((HP.out.put 0 _).put 1 _).put 2 _).put 3 _).put 4 _).put 5 _).put 7 _).put 8 _
  have HP5 := Lib.hid hp5
  replace HB := Lib.hid (HB.out.trans (hl.new_or (by have := HN2.out; omega) HB.out.size))
  replace HR := Lib.hid (HR.out.leaves hl (by have := HN2.out; show ¬ R = P; omega))
  replace HM := Lib.hid (HM.out.leaves hl (by have := HN2.out; show ¬ M = P; omega))
  replace HT2 : Hid (TrAt w5 g2 b2 c2) := Lib.hid (HT2.out.leaves hl (by have := HN2.out; show ¬ g2 = P; omega) (by have := HN2.out; show ¬ b2 = P; omega))
  rw [hw]
  clear hw hl hp5 p0 p1 p2 p3 p4 p5 p7 p8 pf0 pf1 pf2 pf3 pf4 pf5 pf7 pf8 pl
  have HOI := Lib.hid (off_info g2 1 (.slice (some ⟨M, 0, none⟩) 16 16))
  go_wp2_with (first
    | (refine wpList_load_has ?_ 67 (.tmp 1) ?_ P ?_ _ (offC g2 1 (.slice (some ⟨M, 0, none⟩) 16 16)) _ HP5.out Tryz.underlying67 ?_ HOI.out ?_; rfl; rfl; rfl; rfl)
    | (refine wpList_store_has ?_ 67 (.tmp 2) (.tmp 65) ?_ R ?_ (offC g2 1 (.slice (some ⟨M, 0, none⟩) 16 16)) ?_ _ _ HR.out HOI.out ?_ ?_ ?_; rfl; rfl; rfl; rfl; rfl; rfl; intro w10 hh hl))
  replace HB := Lib.hid (HB.out.trans (hl.new_or (by have := HN2.out; omega) HB.out.size))
  replace HM := Lib.hid (HM.out.leaves hl (by have := HN2.out; show ¬ M = R; omega))
  replace HT2 := Lib.hid (HT2.out.leaves hl (by have := HN2.out; show ¬ g2 = R; omega) (by have := HN2.out; show ¬ b2 = R; omega))
  have hsz := hl.size
  refine bodyPost_ret (results_cell rfl _ _ R _ (offC g2 1 (.slice (some ⟨M, 0, none⟩) 16 16)) _ _ ?_ hh Tryz.underlying67 rfl HOI.out) rfl ?_
  · rfl
  exact ⟨g2, b2, c2, M, rfl, HT2.out, HM.out, by have := HN2.out; omega, by have := HN2.out; have := HM.out.lt; obtain ⟨ad, e, hlt, _⟩ := part_cells HT2.out.part (by omega); injection e with e; subst e; exact hlt, HB.out⟩

set_option maxRecDepth 100000 in
set_option maxHeartbeats 4000000 in
theorem copied_do (g b c c' O : Nat) (w : World) (h : TrAt w g b c) (hO : Has w O nil16 75) : Calls Tryz.prog 26 #[.agg (offC g c' (.slice (some ⟨O, 0, none⟩) 16 16))] w (CopPost w) := by
  have HT0 := Lib.hid h
  have HO0 := Lib.hid hO
  clear hO
  clear h
  unfold offC
  go_enter Tryz.func26, Tryz.ntmps26
  have hmk := mk_out16
  go_upto_region 2 with (fail)
  clear hmk
  obtain ⟨v0, hv⟩ : ∃ W, ((w.alloc (.cells #[.int .i64 0, .slice (some ⟨g, 0, none⟩) 1 c', .slice none 0 0, .slice none 0 0, .slice none 0 0, .slice none 0 0, .int .i64 0, .slice none 0 0, .slice (some ⟨O, 0, none⟩) 16 16] 67)).alloc (.cells offZ 67)).alloc (.cells nil16 75) = W := ⟨_, rfl⟩
  have hb : Below w.heap.size w v0 := by rw [← hv]; exact (by (repeat' (first | (with_reducible exact Below.refl _ _) | (with_reducible refine Below.setCell ?_ ?_ _) | (with_reducible refine below_drewN ?_ _) | (with_reducible refine Below.drew ?_) | (with_reducible refine Below.alloc ?_ ?_ _))) <;> (first | omega | (simp <;> omega)))
  have HP : Hid (Has v0 w.heap.size (offC g c' (.slice (some ⟨O, 0, none⟩) 16 16)) 67) := Lib.hid (by rw [← hv]; exact ((Has.new _ _ _).alloc _).alloc _)
  have HR : Hid (Has v0 (w.heap.size + 1) offZ 67) := Lib.hid (by rw [← hv]; exact (Has.new' _ _ _ _ (by simp)).alloc _)
  have HM : Hid (Has v0 (w.heap.size + 1 + 1) nil16 75) := Lib.hid (by rw [← hv]; exact Has.new' _ _ _ _ (by simp))
  have HZ : Hid (v0.heap.size = w.heap.size + 3) := Lib.hid (by rw [← hv]; simp)
  have HB := Lib.hid hb
  unfold offZ at hv
  rw [hv]
  clear hv hb
  obtain ⟨P, hP⟩ : ∃ Q, w.heap.size = Q := ⟨_, rfl⟩
  obtain ⟨R, hR⟩ : ∃ Q, w.heap.size + 1 = Q := ⟨_, rfl⟩
  obtain ⟨M, hM⟩ : ∃ Q, w.heap.size + 1 + 1 = Q := ⟨_, rfl⟩
  have HN : Hid (w.heap.size = P ∧ R = P + 1 ∧ M = P + 2 ∧ v0.heap.size = P + 3) := Lib.hid (by have := HZ.out; omega)
  rw [hM] at HM ⊢
  rw [hR] at HR ⊢
  rw [hP] at HP ⊢
  clear hP hR hM HZ
  have p8 : v0.cell? ⟨P, 8, none⟩ = some (.slice (some ⟨O, 0, none⟩) 16 16) := HP.out.cell 8
  go_wp2_with fail
  clear p8
  have HRL : Hid (Leaves (fun k => k = M) v0 v0 ∧ Has v0 M nil16 75) := Lib.hid ⟨Leaves.refl _ _, HM.out⟩
  have HOV := Lib.hid (HO0.out.below HB.out HO0.out.lt)
  have HNO : Hid (O ≠ M) := Lib.hid (by have := HN.out; have := HO0.out.lt; omega)
  go_loopw [15] (fun i wr => ∃ k : Nat, k ≤ 16 ∧ i = .int .i64 k ∧ Hid (Leaves (fun k => k = M) v0 wr ∧ Has wr M nil16 75)) (fun i _ => 16 - (intOf i).toNat)
  case atStart => exact ⟨0, by omega, rfl, HRL⟩
  case round =>
    clear HRL
    obtain ⟨k, hk, rfl, HRL⟩ := hrel
    by_cases hlt : k < 16
    · have o0 : wr.cell? ⟨O, k, none⟩ = some (.slice none 0 0) := ((HOV.out.leaves HRL.out.1 (by exact HNO.out)).cell k).trans (nil16_at hlt)
      have m0 : wr.cell? ⟨M, k, none⟩ = some (.slice none 0 0) := (HRL.out.2.cell k).trans (nil16_at hlt)
      have mf : wr.frozen? ⟨M, k, none⟩ = false := HRL.out.2.free _
      have hki : (k : Int) < 16 := by omega
      have hk0 : (0 : Int) ≤ k := by omega
      go_wp2_with fail
      refine (clone_nil_Bordereau _).mono ?_
      rintro e w' ⟨rfl, rfl⟩
      have HRL2 : Hid (Leaves (fun k => k = M) v0 (wr.setCell ⟨M, k, none⟩ (.slice none 0 0)) ∧ Has (wr.setCell ⟨M, k, none⟩ (.slice none 0 0)) M nil16 75) := Lib.hid ⟨HRL.out.1.at _ _, has_put_eq HRL.out.2 (nil16_put k)⟩
      go_wp2_with fail
      refine wp_loop_rounds 1 ?_
      rw [rounds_succ]
      go_wp2_with fail
      go_roundw
      case rel => exact ⟨k + 1, by omega, by go_num, HRL2⟩
      case measure => simp [intOf]; omega
    have hki : ¬ (k : Int) < 16 := by omega
    have HN : Hid (w.heap.size = P ∧ R = P + 1 ∧ M = P + 2 ∧ P + 3 ≤ wr.heap.size) := Lib.hid (by have := HN.out; have := HRL.out.1.size; omega)
    replace HP := Lib.hid (HP.out.leaves HRL.out.1 (by have := HN.out; show ¬ P = M; omega))
    replace HR := Lib.hid (HR.out.leaves HRL.out.1 (by have := HN.out; show ¬ R = M; omega))
    replace HM := Lib.hid HRL.out.2
    replace HB := Lib.hid (HB.out.trans (HRL.out.1.new_or (by have := HN.out; omega) HB.out.size))
    clear HRL HOV
    obtain ⟨v1, rfl⟩ : ∃ W, W = wr := ⟨_, rfl⟩
    have p0 : v1.cell? ⟨P, 0, none⟩ = some (.int .i64 0) := HP.out.cell 0
    have p1 : v1.cell? ⟨P, 1, none⟩ = some (.slice (some ⟨g, 0, none⟩) 1 c') := HP.out.cell 1
    have p2 : v1.cell? ⟨P, 2, none⟩ = some (.slice none 0 0) := HP.out.cell 2
    have p3 : v1.cell? ⟨P, 3, none⟩ = some (.slice none 0 0) := HP.out.cell 3
    have CP := Lib.hid (copiedp_aw g b c c' v1 (HT0.out.later HB.out))
    unfold awP at CP
    go_wp2_with fail
    refine CP.out.mono ?_
    rintro e w1 ⟨g2, b2, c2, rfl, hT2, hg2, hb2, hb2l, hb⟩
    have HT2 := Lib.hid hT2
    have HPN : Hid (P < v1.heap.size ∧ R < v1.heap.size ∧ M < v1.heap.size) := Lib.hid ⟨HP.out.lt, HR.out.lt, HM.out.lt⟩
    have HN2 : Hid (w.heap.size = P ∧ R = P + 1 ∧ M = P + 2 ∧ P + 3 ≤ g2 ∧ P + 3 ≤ b2 ∧ b2 < w1.heap.size) := Lib.hid (by have := HN.out; have := HPN.out; omega)
    replace HB := Lib.hid (HB.out.trans (hb.mono HB.out.size))
    replace HP := Lib.hid (HP.out.below hb HP.out.lt)
    replace HR := Lib.hid (HR.out.below hb HR.out.lt)
    replace HM := Lib.hid (HM.out.below hb HM.out.lt)
    clear p0 p1 p2 p3 CP hT2 hg2 hb2 hb2l hb HN HPN
    have p0 : w1.cell? ⟨P, 0, none⟩ = some (.int .i64 0) := HP.out.cell 0
    have p1 : w1.cell? ⟨P, 1, none⟩ = some (.slice (some ⟨g, 0, none⟩) 1 c') := HP.out.cell 1
    have p2 : w1.cell? ⟨P, 2, none⟩ = some (.slice none 0 0) := HP.out.cell 2
    have p3 : w1.cell? ⟨P, 3, none⟩ = some (.slice none 0 0) := HP.out.cell 3
    have p4 : w1.cell? ⟨P, 4, none⟩ = some (.slice none 0 0) := HP.out.cell 4
    have p5 : w1.cell? ⟨P, 5, none⟩ = some (.slice none 0 0) := HP.out.cell 5
    have p7 : w1.cell? ⟨P, 7, none⟩ = some (.slice none 0 0) := HP.out.cell 7
    have p8 : w1.cell? ⟨P, 8, none⟩ = some (.slice (some ⟨O, 0, none⟩) 16 16) := HP.out.cell 8
    have pf0 : w1.frozen? ⟨P, 0, none⟩ = false := HP.out.free _
    have pf1 : w1.frozen? ⟨P, 1, none⟩ = false := HP.out.free _
    have pf2 : w1.frozen? ⟨P, 2, none⟩ = false := HP.out.free _
    have pf3 : w1.frozen? ⟨P, 3, none⟩ = false := HP.out.free _
    have pf4 : w1.frozen? ⟨P, 4, none⟩ = false := HP.out.free _
    have pf5 : w1.frozen? ⟨P, 5, none⟩ = false := HP.out.free _
    have pf7 : w1.frozen? ⟨P, 7, none⟩ = false := HP.out.free _
    have pf8 : w1.frozen? ⟨P, 8, none⟩ = false := HP.out.free _
    have pl := HP.out.lt
    go_wp2_with fail
    refine (clone_nil_Loss _).mono ?_
    rintro e w' ⟨rfl, rfl⟩
    go_wp2_with fail
    refine (clone_nil_End _).mono ?_
    rintro e w' ⟨rfl, rfl⟩
    go_wp2_with fail
    refine (clone_nil_Posting _).mono ?_
    rintro e w' ⟨rfl, rfl⟩
    go_upto_region 17 with (fail)
    obtain ⟨w5, hw⟩ : ∃ W, (((((((w1.setCell ⟨P, 0, none⟩ (.int .i64 0)).setCell ⟨P, 1, none⟩ (.slice (some ⟨g2, 0, none⟩) 1 1)).setCell ⟨P, 2, none⟩ (.slice none 0 0)).setCell ⟨P, 3, none⟩ (.slice none 0 0)).setCell ⟨P, 4, none⟩ (.slice none 0 0)).setCell ⟨P, 5, none⟩ (.slice none 0 0)).setCell ⟨P, 7, none⟩ (.slice none 0 0)).setCell ⟨P, 8, none⟩ (.slice (some ⟨M, 0, none⟩) 16 16) = W := ⟨_, rfl⟩
    have hl : Leaves (fun k => k = P) w1 w5 := by rw [← hw]; exact ((((((((Leaves.refl (fun k => k = P) _).at _ _).at _ _).at _ _).at _ _).at _ _).at _ _).at _ _).at _ _
    have hp5 : Has w5 P (offC g2 1 (.slice (some ⟨M, 0, none⟩) 16 16)) 67 := by rw [← hw]; exact (((((((HP.out.put 0 _).put 1 _).put 2 _).put 3 _).put 4 _).put 5 _).put 7 _).put 8 _
    have HP5 := Lib.hid hp5
    replace HB := Lib.hid (HB.out.trans (hl.new_or (by have := HN2.out; omega) HB.out.size))
    replace HR := Lib.hid (HR.out.leaves hl (by have := HN2.out; show ¬ R = P; omega))
    replace HM := Lib.hid (HM.out.leaves hl (by have := HN2.out; show ¬ M = P; omega))
    replace HT2 : Hid (TrAt w5 g2 b2 c2) := Lib.hid (HT2.out.leaves hl (by have := HN2.out; show ¬ g2 = P; omega) (by have := HN2.out; show ¬ b2 = P; omega))
    rw [hw]
    clear hw hl hp5 p0 p1 p2 p3 p4 p5 p7 p8 pf0 pf1 pf2 pf3 pf4 pf5 pf7 pf8 pl
    have HOI := Lib.hid (off_info g2 1 (.slice (some ⟨M, 0, none⟩) 16 16))
    go_wp2_with (first
      | (refine wpList_load_has ?_ 67 (.tmp 1) ?_ P ?_ _ (offC g2 1 (.slice (some ⟨M, 0, none⟩) 16 16)) _ HP5.out Tryz.underlying67 ?_ HOI.out ?_; rfl; rfl; rfl; rfl)
      | (refine wpList_store_has ?_ 67 (.tmp 2) (.tmp 65) ?_ R ?_ (offC g2 1 (.slice (some ⟨M, 0, none⟩) 16 16)) ?_ _ _ HR.out HOI.out ?_ ?_ ?_; rfl; rfl; rfl; rfl; rfl; rfl; intro w10 hh hl))
    replace HB := Lib.hid (HB.out.trans (hl.new_or (by have := HN2.out; omega) HB.out.size))
    replace HM := Lib.hid (HM.out.leaves hl (by have := HN2.out; show ¬ M = R; omega))
    replace HT2 := Lib.hid (HT2.out.leaves hl (by have := HN2.out; show ¬ g2 = R; omega) (by have := HN2.out; show ¬ b2 = R; omega))
    have hsz := hl.size
    refine bodyPost_ret (results_cell rfl _ _ R _ (offC g2 1 (.slice (some ⟨M, 0, none⟩) 16 16)) _ _ ?_ hh Tryz.underlying67 rfl HOI.out) rfl ?_
    · rfl
    exact ⟨g2, b2, c2, M, rfl, HT2.out, HM.out, by have := HN2.out; omega, by have := HN2.out; have := HM.out.lt; obtain ⟨ad, e, hlt, _⟩ := part_cells HT2.out.part (by omega); injection e with e; subst e; exact hlt, HB.out⟩
end Go.Proofs.YtbeikfopneeodaaGreat
