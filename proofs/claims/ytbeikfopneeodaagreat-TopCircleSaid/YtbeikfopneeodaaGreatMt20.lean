/- programme: kindOf, proportionalKind.apply at the example. -/
import Derived.Test.YtbeikfopneeodaaGreatMt19
namespace Go.Proofs.YtbeikfopneeodaaGreat
open Go.RowKit
set_option linter.unusedVariables false

/-- a pointer to a treaty that is known whole, and its cells -/
def TrPtr (w : World) (v : Value) : Prop := ∃ b cs, v = .pointer (some ⟨b, 0, none⟩) ∧ w.heap[b]? = some (.cells cs 54 (0, 0)) ∧ cs.size = 21
def trCells (w : World) (v : Value) : Array Value := match v with
  | .pointer (some a) => match w.heap[a.block]? with
    | some (.cells cs _ _) => cs
    | _ => #[]
  | _ => #[]
theorem exec_load_tr {ev : Operand → Value} {d : Option Tmp} {x : Operand} {ty : TypeId} {pos : String} {af : Array Edge} {g : Option (Nat × Bool)} {w : World} (h : TrPtr w (ev x)) :
    (execOp ev { dst := d, op := .load 54 x, type := ty, pos := pos, after := af, guard := g }).run Tryz.prog w = .ok (.value (.agg (trCells w (ev x)))) w := by
  obtain ⟨b, cs, hv, hb, hc⟩ := h
  have e : trCells w (.pointer (some ⟨b, 0, none⟩)) = cs := by simp [trCells, hb]
  unfold execOp
  simp only [hv, Instr.loadAt, Instr.sureAddr, Sem.run_bind, Sem.run_pure, Result.andThen_ok, run_loadVar_row w b 54 54 cs (0, 0) _ hb Tryz.underlying54 rfl (by rw [hc]; exact ty_info), e]
attribute [local go_sem ↓] exec_load_tr
theorem tr_load {w : World} {k b c : Nat} (h : Has w k (awC b c) 54) : TrPtr w (.pointer (some ⟨k, 0, none⟩)) ∧ trCells w (.pointer (some ⟨k, 0, none⟩)) = awC b c :=
  ⟨⟨k, awC b c, rfl, h, rfl⟩, by have h' : w.heap[k]? = _ := h; simp only [trCells, h']⟩

theorem kindof_aw (w : World) : Calls Tryz.prog 161 #[.int .i64 1] w fun e w' => e = .returned (.iface 338 (.agg #[])) ∧ w = w' := by
  go_enter Tryz.func161, Tryz.ntmps161
  go_wp2_with fail
  go_ret
  exact ⟨rfl, rfl⟩

set_option maxRecDepth 100000 in
set_option maxHeartbeats 2000000 in
theorem sapply_aw (p : Pl) (I T D : Nat) (w : World) (h : StAt w p) (hS : Has w p.S (secC T D) 234) (hT : Has w T #[.int .i64 100] 3) (hD : Has w D #[.int .i64 0] 3) (hF : Has w p.F #[.int .i64 0] 3) (hI : w.cell? ⟨I, 0, none⟩ = some (.int .i64 0)) (hTF : p.F < T) (hTD : T < D) (hIl : I < w.heap.size) :
    Calls Tryz.prog 375 #[.agg #[], .pointer (some ⟨p.B, 0, none⟩), .slice (some ⟨I, 0, none⟩) 1 1] w fun e w' => e = .returned (.int .i64 0) ∧ Has w' p.F #[.int .i64 50] 3 ∧ Has w' D #[.int .i64 50] 3 ∧ Leaves (fun k => k = p.F ∨ k = D) w w' := by
  obtain ⟨B, g, b, c, c', l, cl, A, c1, C, c3, E, F, S⟩ := p
  have HS0 := Lib.hid h
  have HSS := Lib.hid hS
  have HF := Lib.hid hF
  have HT := Lib.hid hT
  have HD := Lib.hid hD
  have HTI := Lib.hid (awC_info (b := b) (c := c) ty_info rfl)
  have HLI := Lib.hid loss_info'
  obtain ⟨x1, x4, x5, x6, x7, x8, xe⟩ := h.cells
  obtain ⟨o1, o2, o3, o4, o5, o6, o7, o8⟩ := h.ord
  have olt := h.lt
  dsimp only at x1 x4 x5 x6 x7 x8 xe o1 o2 o3 o4 o5 o6 o7 o8 olt hTF ⊢
  have HOR : Hid (g < B ∧ b < B ∧ l < B ∧ A < B ∧ C < B ∧ B < S ∧ S < E ∧ E < F ∧ F < T ∧ T < D ∧ D < w.heap.size) := Lib.hid ⟨o1, o2, o3, o4, o5, o6, o7, o8, hTF, hTD, hD.lt⟩
  have bl : B < w.heap.size := h.st.lt
  clear o1 o2 o3 o4 o5 o6 o7 o8 olt h hS hF hT hD hTF hTD
  go_enter Tryz.func375, Tryz.ntmps375
  go_upto_region 3 with (first
    | (refine wpList_load_has ?_ 54 (.tmp 23) ?_ g ?_ _ (awC b c) _ (HS0.out.tr.box.alloc _) Tryz.underlying54 ?_ HTI.out ?_; rfl; rfl; rfl; rfl)
    | (refine wpList_store_has ?_ 54 (.tmp 8) (.tmp 24) ?_ (w.heap.size + 1) ?_ (awC b c) ?_ _ _ (Has.new' (w.alloc _) (w.heap.size + 1) zeroT _ (by simp)) HTI.out ?_ ?_ ?_; rfl; rfl; rfl; rfl; rfl; rfl; intro w2 hh hl))
  have hb2 : Below w.heap.size w w2 := Below.trans (b := (w.alloc (.cells #[] 338)).alloc (.cells zeroT 54)) (by (repeat' (first | (with_reducible exact Below.refl _ _) | (with_reducible refine Below.setCell ?_ ?_ _) | (with_reducible refine below_drewN ?_ _) | (with_reducible refine Below.drew ?_) | (with_reducible refine Below.alloc ?_ ?_ _))) <;> (first | omega | (simp <;> omega))) (hl.below (fun k hk => by omega) (by simp; omega))
  have HB := Lib.hid hb2
  have H8 := Lib.hid hh
  replace HS0 := Lib.hid (HS0.out.below hb2)
  replace HSS := Lib.hid (HSS.out.below hb2 HSS.out.lt)
  replace HF := Lib.hid (HF.out.below hb2 HF.out.lt)
  replace HT := Lib.hid (HT.out.below hb2 HT.out.lt)
  replace HD := Lib.hid (HD.out.below hb2 HD.out.lt)
  clear x1 x4 x5 x6 x7 x8 xe bl hh hl hb2
  obtain ⟨G8, hG⟩ : ∃ T, w.heap.size + 1 = T := ⟨_, rfl⟩
  rw [hG] at H8 ⊢
  have HSV : Hid (∀ V, Below w2.heap.size w2 V → TrPtr V (.pointer (some ⟨G8, 0, none⟩)) ∧ trCells V (.pointer (some ⟨G8, 0, none⟩)) = awC b c ∧ V.cell? ⟨B, 4, none⟩ = some (.slice (some ⟨l, 0, none⟩) 1 cl)) := Lib.hid fun V hb =>
    ⟨(tr_load (H8.out.below hb H8.out.lt)).1, (tr_load (H8.out.below hb H8.out.lt)).2, (HS0.out.below hb).cells.2.1⟩
  have HBB : Hid (Below w2.heap.size w2 w2.drew) := Lib.hid (Below.drew (Below.refl _ _))
  have HA : Hid (∀ A : Nat, True) := Lib.hid fun _ => trivial
  go_region_held3 (fun V => TrPtr V (.pointer (some ⟨G8, 0, none⟩)) ∧ trCells V (.pointer (some ⟨G8, 0, none⟩)) = awC b c ∧ V.cell? ⟨B, 4, none⟩ = some (.slice (some ⟨l, 0, none⟩) 1 cl)) (exact HSV.out _ HBB.out) (first
    | (go_at_call 349; refine (covered_aw b c l cl _ (HS0.out.below HBB.out).tr.part (HS0.out.below HBB.out).loss).mono ?_; rintro e w3 ⟨Ix, ci, rfl, ho, hb⟩; replace HBB : Hid (Below w2.heap.size w2 w3) := Lib.hid (HBB.out.trans (hb.mono HBB.out.size)); replace HA := Lib.hid ho; clear hb ho))
  have ix : w3.cell? ⟨Ix, 0, none⟩ = some (.int .i64 0) := HA.out.cell (by omega)
  have hs2 := HB.out.size
  replace HB := Lib.hid (HB.out.trans (HBB.out.mono HB.out.size))
  replace HS0 := Lib.hid (HS0.out.below HBB.out)
  replace HSS := Lib.hid (HSS.out.below HBB.out HSS.out.lt)
  replace HF := Lib.hid (HF.out.below HBB.out HF.out.lt)
  replace HT := Lib.hid (HT.out.below HBB.out HT.out.lt)
  replace HD := Lib.hid (HD.out.below HBB.out HD.out.lt)
  replace H8 := Lib.hid (H8.out.below HBB.out H8.out.lt)
  clear HBB HSV HA hs2
  go_wp2_with fail
  refine wp_loop_rounds 2 ?_
  rw [rounds_succ]
  have g1 : w3.cell? ⟨G8, 1, none⟩ = some (.int .i64 1) := H8.out.cell 1
  have gl : G8 < w3.heap.size := H8.out.lt
  have HSV : Hid (∀ V, Below w3.heap.size w3 V → TrPtr V (.pointer (some ⟨G8, 0, none⟩)) ∧ trCells V (.pointer (some ⟨G8, 0, none⟩)) = awC b c ∧ V.cell? ⟨B, 8, none⟩ = some (.slice (some ⟨S, 0, none⟩) 1 1) ∧ V.cell? ⟨S, 1, none⟩ = some (.slice (some ⟨T, 0, none⟩) 1 1) ∧ V.cell? ⟨T, 0, none⟩ = some (.int .i64 100)) := Lib.hid fun V hb =>
    ⟨(tr_load (H8.out.below hb H8.out.lt)).1, (tr_load (H8.out.below hb H8.out.lt)).2, (HS0.out.below hb).st.cell 8, (HSS.out.below hb HSS.out.lt).cell 1, (HT.out.below hb HT.out.lt).cell 0⟩
  have HBB : Hid (Below w3.heap.size w3 w3.drew) := Lib.hid (Below.drew (Below.refl _ _))
  go_upto_region 9 with (fail)
  clear ix g1
  go_region_held3 (fun V => TrPtr V (.pointer (some ⟨G8, 0, none⟩)) ∧ trCells V (.pointer (some ⟨G8, 0, none⟩)) = awC b c ∧ V.cell? ⟨B, 8, none⟩ = some (.slice (some ⟨S, 0, none⟩) 1 1) ∧ V.cell? ⟨S, 1, none⟩ = some (.slice (some ⟨T, 0, none⟩) 1 1) ∧ V.cell? ⟨T, 0, none⟩ = some (.int .i64 100)) (first | exact HSV.out _ HBB.out | exact HSV.out _ (by (repeat' (first | (with_reducible exact HBB.out) | (with_reducible exact Below.refl _ _) | (with_reducible refine Below.setCell ?_ ?_ _) | (with_reducible refine below_drewN ?_ _) | (with_reducible refine Below.drew ?_) | (with_reducible refine Below.alloc ?_ ?_ _))) <;> (first | (have hsz := HBB.out.size; simp at hsz ⊢; omega) | (have hsz := HBB.out.size; simp at hsz ⊢)))) (first
    | (go_at_call 376; first | (refine (pcede_aw b c _ (HS0.out.below HBB.out).tr.part).mono ?_; rintro e w4 ⟨rfl, hb⟩; replace HBB : Hid (Below w3.heap.size w3 w4) := Lib.hid (HBB.out.trans (hb.mono HBB.out.size)); clear hb) | (refine (pcede_aw b c _ (HS0.out.below (by (repeat' (first | (with_reducible exact HBB.out) | (with_reducible exact Below.refl _ _) | (with_reducible refine Below.setCell ?_ ?_ _) | (with_reducible refine below_drewN ?_ _) | (with_reducible refine Below.drew ?_) | (with_reducible refine Below.alloc ?_ ?_ _))) <;> (first | (have hsz := HBB.out.size; simp at hsz ⊢; omega) | (have hsz := HBB.out.size; simp at hsz ⊢)))).tr.part).mono ?_; rintro e w4 ⟨rfl, hb⟩; have z4 : Has w4 w3.heap.size #[.int .i64 0, .int .i64 0, .int .i64 0] 483 := Has.below (Has.drew (Has.new _ _ _)) hb (by simp); replace HBB : Hid (Below w3.heap.size w3 w4) := Lib.hid (Below.trans (b := (w3.alloc (.cells #[.int .i64 0, .int .i64 0, .int .i64 0] 483)).drew) (by (repeat' (first | (with_reducible exact HBB.out) | (with_reducible exact Below.refl _ _) | (with_reducible refine Below.setCell ?_ ?_ _) | (with_reducible refine below_drewN ?_ _) | (with_reducible refine Below.drew ?_) | (with_reducible refine Below.alloc ?_ ?_ _))) <;> (first | (have hsz := HBB.out.size; simp at hsz ⊢; omega) | (have hsz := HBB.out.size; simp at hsz ⊢))) (hb.mono (by simp))); obtain ⟨z0, zf, zl⟩ := z4.rules; have z00 := z0 0; have z01 := z0 1; have z02 := z0 2; clear hb z0)))
  · obtain ⟨X, hXe⟩ : ∃ X, w4.heap.size = X := ⟨_, rfl⟩
    have hX : Has (w4.alloc (.cells #[.int .i64 50, .int .i64 50, .int .i64 0] 483)) X #[.int .i64 50, .int .i64 50, .int .i64 0] 483 := Has.new' _ _ _ _ hXe.symm
    have hW : Below w3.heap.size w3 (w4.alloc (.cells #[.int .i64 50, .int .i64 50, .int .i64 0] 483)) := (by (repeat' (first | (with_reducible exact HBB.out) | (with_reducible exact Below.refl _ _) | (with_reducible refine Below.setCell ?_ ?_ _) | (with_reducible refine below_drewN ?_ _) | (with_reducible refine Below.drew ?_) | (with_reducible refine Below.alloc ?_ ?_ _))) <;> (first | (have hsz := HBB.out.size; simp at hsz ⊢; omega) | (have hsz := HBB.out.size; simp at hsz ⊢)))
    rw [hXe]
    obtain ⟨W, hWe⟩ : ∃ W, w4.alloc (.cells #[.int .i64 50, .int .i64 50, .int .i64 0] 483) = W := ⟨_, rfl⟩
    rw [hWe] at hX hW ⊢
    replace HBB := Lib.hid hW
    clear hWe hXe
    have HX := Lib.hid hX
    clear hX hW
    replace HB := Lib.hid (HB.out.trans (HBB.out.mono HB.out.size))
    replace HS0 := Lib.hid (HS0.out.below HBB.out)
    replace HSS := Lib.hid (HSS.out.below HBB.out HSS.out.lt)
    replace HF := Lib.hid (HF.out.below HBB.out HF.out.lt)
    replace HD := Lib.hid (HD.out.below HBB.out HD.out.lt)
    have xx0 : W.cell? ⟨X, 0, none⟩ = some (.int .i64 50) := HX.out.cell 0
    clear HBB HSV HT H8 gl HX HTI HLI
    go_wp2_with fail
    refine (scede_aw ⟨B, g, b, c, c', l, cl, A, c1, C, c3, E, F, S⟩ T D 0 0 50 W HS0.out HSS.out HF.out HD.out (by have := HOR.out; show F < D; omega)).mono ?_
    rintro e w6 ⟨rfl, hw6⟩
    have hFD : F ≠ D := by have := HOR.out; omega
    have H6 : Hid (Has w6 F #[.int .i64 50] 3 ∧ Has w6 D #[.int .i64 50] 3 ∧ Leaves (fun k => k = F ∨ k = D) w w6) := Lib.hid (by
      rw [hw6]
      refine ⟨(HF.out.far hFD _).put 0 _, (HD.out.put 0 _).far (Ne.symm hFD) _, ?_⟩
      have HL : Leaves (fun k => k = F ∨ k = D) w W := ⟨HB.out.os, HB.out.tape, HB.out.output, HB.out.size, fun k hk _ => HB.out.block k hk⟩
      exact (HL.put (.inl (.inr rfl)) _).put (.inl (.inl rfl)) _)
    clear hw6 HS0 HSS HF HD HB xx0 HOR hFD
    go_wp2_with fail
    rw [rounds_succ]
    go_wp2_with fail
    go_ret
    exact ⟨rfl, H6.out⟩
  · obtain ⟨X, hXe⟩ : ∃ X, w3.heap.size = X := ⟨_, rfl⟩
    have hX : Has (((w4.setCell ⟨X, 0, none⟩ (.int .i64 50)).setCell ⟨X, 1, none⟩ (.int .i64 50)).setCell ⟨X, 2, none⟩ (.int .i64 0)) X #[.int .i64 50, .int .i64 50, .int .i64 0] 483 := by rw [← hXe]; exact ((z4.put 0 _).put 1 _).put 2 _
    have hW : Below w3.heap.size w3 (((w4.setCell ⟨X, 0, none⟩ (.int .i64 50)).setCell ⟨X, 1, none⟩ (.int .i64 50)).setCell ⟨X, 2, none⟩ (.int .i64 0)) := by rw [← hXe]; exact (by (repeat' (first | (with_reducible exact HBB.out) | (with_reducible exact Below.refl _ _) | (with_reducible refine Below.setCell ?_ ?_ _) | (with_reducible refine below_drewN ?_ _) | (with_reducible refine Below.drew ?_) | (with_reducible refine Below.alloc ?_ ?_ _))) <;> (first | (have hsz := HBB.out.size; simp at hsz ⊢; omega) | (have hsz := HBB.out.size; simp at hsz ⊢)))
    rw [hXe] at z4 z00 z01 z02 zf zl ⊢
    obtain ⟨W, hWe⟩ : ∃ W, ((w4.setCell ⟨X, 0, none⟩ (.int .i64 50)).setCell ⟨X, 1, none⟩ (.int .i64 50)).setCell ⟨X, 2, none⟩ (.int .i64 0) = W := ⟨_, rfl⟩
    rw [hWe] at hX hW ⊢
    replace HBB := Lib.hid hW
    clear hWe z4 z00 z01 z02 zf zl
    have HX := Lib.hid hX
    clear hX hW
    replace HB := Lib.hid (HB.out.trans (HBB.out.mono HB.out.size))
    replace HS0 := Lib.hid (HS0.out.below HBB.out)
    replace HSS := Lib.hid (HSS.out.below HBB.out HSS.out.lt)
    replace HF := Lib.hid (HF.out.below HBB.out HF.out.lt)
    replace HD := Lib.hid (HD.out.below HBB.out HD.out.lt)
    have xx0 : W.cell? ⟨X, 0, none⟩ = some (.int .i64 50) := HX.out.cell 0
    clear HBB HSV HT H8 gl HX HTI HLI
    go_wp2_with fail
    refine (scede_aw ⟨B, g, b, c, c', l, cl, A, c1, C, c3, E, F, S⟩ T D 0 0 50 W HS0.out HSS.out HF.out HD.out (by have := HOR.out; show F < D; omega)).mono ?_
    rintro e w6 ⟨rfl, hw6⟩
    have hFD : F ≠ D := by have := HOR.out; omega
    have H6 : Hid (Has w6 F #[.int .i64 50] 3 ∧ Has w6 D #[.int .i64 50] 3 ∧ Leaves (fun k => k = F ∨ k = D) w w6) := Lib.hid (by
      rw [hw6]
      refine ⟨(HF.out.far hFD _).put 0 _, (HD.out.put 0 _).far (Ne.symm hFD) _, ?_⟩
      have HL : Leaves (fun k => k = F ∨ k = D) w W := ⟨HB.out.os, HB.out.tape, HB.out.output, HB.out.size, fun k hk _ => HB.out.block k hk⟩
      exact (HL.put (.inl (.inr rfl)) _).put (.inl (.inl rfl)) _)
    clear hw6 HS0 HSS HF HD HB xx0 HOR hFD
    go_wp2_with fail
    rw [rounds_succ]
    go_wp2_with fail
    go_ret
    exact ⟨rfl, H6.out⟩
end Go.Proofs.YtbeikfopneeodaaGreat
