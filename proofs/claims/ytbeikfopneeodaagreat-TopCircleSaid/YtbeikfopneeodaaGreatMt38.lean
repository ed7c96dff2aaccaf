/- office.report at the example. office.handlers: the table of the handlers. office.Do at the example. -/
import Derived.Test.YtbeikfopneeodaaGreatMt37
import Derived.Test.YtbeikfopneeodaaGreatMt31
import Derived.Test.YtbeikfopneeodaaGreatMt13
import Derived.MapKept
import Derived.Test.YtbeikfopneeodaaGreatMt36
namespace Go.Proofs.YtbeikfopneeodaaGreat
open Go.RowKit
set_option linter.unusedVariables false

/-- the report of one loss -/
def cmdC (l cl : Nat) : Array Value := #[.int .i64 1, .slice (some ⟨l, 0, none⟩) 1 cl, .int .i64 0, .int .i64 0, .int .i64 0, .int .i64 0]
def lossF (j : Nat) : Value := lossC.getD j undef
theorem loss_cells {w : World} {l : Nat} (h : LossAt w l) : Cells w w.heap.size (some ⟨l, 0, none⟩) (1 * 10) lossF := fun _ => ⟨_, rfl, h.lt, fun j hj => by
  rw [Go.WideShapes.add_plain, Nat.zero_add, h.1 j (by omega)]
  have hj : j < 10 := hj
  match j, hj with
  | 0, _ | 1, _ | 2, _ | 3, _ | 4, _ | 5, _ | 6, _ | 7, _ | 8, _ | 9, _ => rfl
  | n + 10, h => exact absurd h (by omega)⟩
theorem loss_one (j : Nat) (hj : j < 1 * 10) : (lossF j).oneCell' = true := by
  have hj : j < 10 := hj
  match j, hj with
  | 0, _ | 1, _ | 2, _ | 3, _ | 4, _ | 5, _ | 6, _ | 7, _ | 8, _ | 9, _ => rfl
  | n + 10, h => exact absurd h (by omega)
theorem loss_own {w : World} {base l cap : Nat} (h : Own w base l 1 cap 10 72 lossF) : LossAt w l := ⟨fun j hj => by
  rw [h.cell (by omega)]
  match j, hj with
  | 0, _ | 1, _ | 2, _ | 3, _ | 4, _ | 5, _ | 6, _ | 7, _ | 8, _ | 9, _ => rfl
  | n + 10, h => exact absurd h (by omega), h.lt⟩
/-- what report leaves: the office with the loss and the four postings -/
def RepPost (N g O : Nat) (w : World) (e : Ending) (w' : World) : Prop := ∃ l cl p cp, e = .returned (.int .i64 0) ∧ Has w' N (offL g 1 l cl (.slice (some ⟨p, 0, none⟩) 4 cp) (.slice (some ⟨O, 0, none⟩) 16 16)) 67 ∧ PoAt w' p ∧ w.heap.size ≤ p ∧ Leaves (fun k => k = N) w w'

set_option maxRecDepth 100000 in
set_option maxHeartbeats 4000000 in
theorem report_aw (N g b c l cl O : Nat) (w : World) (hN : Has w N (offC g 1 (.slice (some ⟨O, 0, none⟩) 16 16)) 67) (h : TrAt w g b c) (hl : LossAt w l) (hn : N ≠ g ∧ N ≠ b ∧ N ≠ l) :
    Calls Tryz.prog 43 #[.pointer (some ⟨N, 0, none⟩), .agg (cmdC l cl)] w (RepPost N g O w) := by
  have HN0 := Lib.hid hN
  have HT0 := Lib.hid h
  have HL0 := Lib.hid hl
  have HNE := Lib.hid hn
  clear hN h hl hn
  unfold cmdC
  go_enter Tryz.func43, Tryz.ntmps43
  go_upto_region 1 with (fail)
  have hb0 : Below w.heap.size w (w.alloc (.cells #[.int .i64 1, .slice (some ⟨l, 0, none⟩) 1 cl, .int .i64 0, .int .i64 0, .int .i64 0, .int .i64 0] 74)) := (Below.refl _ _).alloc (Nat.le_refl _) _
  have hc : Has (w.alloc (.cells #[.int .i64 1, .slice (some ⟨l, 0, none⟩) 1 cl, .int .i64 0, .int .i64 0, .int .i64 0, .int .i64 0] 74)) w.heap.size #[.int .i64 1, .slice (some ⟨l, 0, none⟩) 1 cl, .int .i64 0, .int .i64 0, .int .i64 0, .int .i64 0] 74 := Has.new _ _ _
  have HB := Lib.hid hb0
  obtain ⟨v0, hv⟩ : ∃ W, w.alloc (.cells #[.int .i64 1, .slice (some ⟨l, 0, none⟩) 1 cl, .int .i64 0, .int .i64 0, .int .i64 0, .int .i64 0] 74) = W := ⟨_, rfl⟩
  rw [hv] at hc HB ⊢
  obtain ⟨C, hC⟩ : ∃ Q, w.heap.size = Q := ⟨_, rfl⟩
  rw [hC] at hc ⊢
  have hcl := hc.lt
  have HNL : Hid (N < C ∧ w.heap.size = C) := Lib.hid ⟨by have := HN0.out.lt; omega, hC⟩
  clear hv hC hb0
  have c1 : v0.cell? ⟨C, 1, none⟩ = some (.slice (some ⟨l, 0, none⟩) 1 cl) := hc.cell 1
  have c2 : v0.cell? ⟨C, 2, none⟩ = some (.int .i64 0) := hc.cell 2
  have c3 : v0.cell? ⟨C, 3, none⟩ = some (.int .i64 0) := hc.cell 3
  have c4 : v0.cell? ⟨C, 4, none⟩ = some (.int .i64 0) := hc.cell 4
  have c5 : v0.cell? ⟨C, 5, none⟩ = some (.int .i64 0) := hc.cell 5
  clear hc
  have CL := Lib.hid (clone_lo ⟨l, 0, none⟩ 1 cl lossF v0 (by omega) (by omega) (loss_cells (HL0.out.below HB.out HL0.out.lt)) loss_one)
  go_wp2_with fail
  refine CL.out.mono ?_
  rintro e w1 ⟨X, cx, rfl, ho, hb⟩
  replace HB := Lib.hid (HB.out.trans (hb.mono HB.out.size))
  have HLX : Hid (LossAt w1 X) := Lib.hid (loss_own ho)
  have HXN : Hid (X ≠ N) := Lib.hid (by have := ho.base_le; have := HNL.out; omega)
  have HN1 := Lib.hid (HN0.out.below HB.out HN0.out.lt)
  clear ho hb CL c1 c2 c3 c4 c5 hcl
  have n4 : w1.cell? ⟨N, 4, none⟩ = some (.slice none 0 0) := HN1.out.cell 4
  have nf : w1.frozen? ⟨N, 4, none⟩ = false := HN1.out.free _
  have nl := HN1.out.lt
  go_upto_region 4 with (fail)
  have hl2 : Leaves (fun k => k = N) w1 (w1.setCell ⟨N, 4, none⟩ (.slice (some ⟨X, 0, none⟩) 1 cx)) := (Leaves.refl (fun k => k = N) _).at _ _
  have hn2 : Has (w1.setCell ⟨N, 4, none⟩ (.slice (some ⟨X, 0, none⟩) 1 cx)) N (offL g 1 X cx (.slice none 0 0) (.slice (some ⟨O, 0, none⟩) 16 16)) 67 := HN1.out.put 4 _
  obtain ⟨w2, hw⟩ : ∃ W, w1.setCell ⟨N, 4, none⟩ (.slice (some ⟨X, 0, none⟩) 1 cx) = W := ⟨_, rfl⟩
  rw [hw] at hl2 hn2 ⊢
  have HN2 := Lib.hid hn2
  have HL : Hid (Leaves (fun k => k = N) w w2) := Lib.hid ((leaves_of (T := fun k => k = N) HB.out).trans hl2)
  replace HLX := Lib.hid (HLX.out.leaves hl2 (by have := HXN.out; show ¬ X = N; omega))
  have HT2 : Hid (TrAt w2 g b c) := Lib.hid (HT0.out.leaves HL.out (by have := HNE.out; show ¬ g = N; omega) (by have := HNE.out; show ¬ b = N; omega))
  clear hw hl2 hn2 n4 nf nl HN1 HB
  have HOI := Lib.hid (offl_info g 1 X cx (.slice none 0 0) (.slice (some ⟨O, 0, none⟩) 16 16))
  have CT := Lib.hid (target_aw g b c 1 X cx O w2 HT2.out HLX.out)
  go_wp2_with (refine wpList_load_has ?_ 67 (.tmp 33) ?_ N ?_ _ (offL g 1 X cx (.slice none 0 0) (.slice (some ⟨O, 0, none⟩) 16 16)) _ HN2.out Tryz.underlying67 ?_ HOI.out ?_; rfl; rfl; rfl; rfl)
  refine CT.out.mono ?_
  rintro e w3 ⟨Z, cz, _, rfl, hz, hzb, hb⟩
  replace HL := Lib.hid (HL.out.step hb)
  replace HN2 := Lib.hid (HN2.out.below hb HN2.out.lt)
  have HZ := Lib.hid hz
  clear hz hzb hb CT HLX HT2
  have n6 : w3.cell? ⟨N, 6, none⟩ = some (.int .i64 0) := HN2.out.cell 6
  have n7 : w3.cell? ⟨N, 7, none⟩ = some (.slice none 0 0) := HN2.out.cell 7
  have CR := Lib.hid (restate_aw Z cz w3 HZ.out)
  go_wp2_with fail
  refine CR.out.mono ?_
  rintro e w4 ⟨Y, cy, vv, rfl, hy, hyb, hb⟩
  have HN4 := Lib.hid (HN2.out.below hb HN2.out.lt)
  have HY := Lib.hid hy
  have HYN : Hid (Y ≠ N ∧ w.heap.size ≤ Y) := Lib.hid (by have := HL.out.size; have := HN2.out.lt; omega)
  replace HL := Lib.hid (HL.out.step hb)
  clear hy hyb hb CR n6 n7 HZ HN2
  have n6 : w4.cell? ⟨N, 6, none⟩ = some (.int .i64 0) := HN4.out.cell 6
  have n7 : w4.cell? ⟨N, 7, none⟩ = some (.slice none 0 0) := HN4.out.cell 7
  have nf6 : w4.frozen? ⟨N, 6, none⟩ = false := HN4.out.free _
  have nf7 : w4.frozen? ⟨N, 7, none⟩ = false := HN4.out.free _
  have nl := HN4.out.lt
  go_wp2_with fail
  have hl5 : Leaves (fun k => k = N) w4 ((w4.setCell ⟨N, 6, none⟩ (.int .i64 0)).setCell ⟨N, 7, none⟩ (.slice (some ⟨Y, 0, none⟩) 4 cy)) := ((Leaves.refl (fun k => k = N) _).at _ _).at _ _
  have hn5 : Has ((w4.setCell ⟨N, 6, none⟩ (.int .i64 0)).setCell ⟨N, 7, none⟩ (.slice (some ⟨Y, 0, none⟩) 4 cy)) N (offL g 1 X cx (.slice (some ⟨Y, 0, none⟩) 4 cy) (.slice (some ⟨O, 0, none⟩) 16 16)) 67 := (HN4.out.put 6 _).put 7 _
  go_ret
  exact ⟨X, cx, Y, cy, rfl, hn5, HY.out.leaves hl5 (by have := HYN.out; show ¬ Y = N; omega), HYN.out.2, HL.out.trans hl5⟩
end Go.Proofs.YtbeikfopneeodaaGreat
namespace Go.Proofs.YtbeikfopneeodaaGreat
open Go.RowKit
set_option linter.unusedVariables false

def hfn (k : Nat) : Value := .func (.func k) #[] #[]
def hEs : Nat → Array MapEntry
  | 0 => #[]
  | 1 => #[⟨.int .i64 1, hfn 43, 0⟩]
  | 2 => #[⟨.int .i64 1, hfn 43, 0⟩, ⟨.int .i64 2, hfn 44, 1⟩]
  | 3 => #[⟨.int .i64 1, hfn 43, 0⟩, ⟨.int .i64 2, hfn 44, 1⟩, ⟨.int .i64 3, hfn 45, 2⟩]
  | 4 => #[⟨.int .i64 1, hfn 43, 0⟩, ⟨.int .i64 2, hfn 44, 1⟩, ⟨.int .i64 3, hfn 45, 2⟩, ⟨.int .i64 4, hfn 46, 3⟩]
  | _ => #[⟨.int .i64 1, hfn 43, 0⟩, ⟨.int .i64 2, hfn 44, 1⟩, ⟨.int .i64 3, hfn 45, 2⟩, ⟨.int .i64 4, hfn 46, 3⟩, ⟨.int .i64 5, hfn 47, 4⟩]

theorem alloc_set (w : World) (o o' : Obj) : ({ (w.alloc o) with heap := (w.alloc o).heap.setIfInBounds w.heap.size o' } : World) = w.alloc o' := by
  have h : (w.heap.push o).setIfInBounds w.heap.size o' = w.heap.push o' := by
    apply Array.ext_getElem?
    intro i
    rw [Array.getElem?_setIfInBounds, Array.getElem?_push, Array.getElem?_push]
    by_cases e : w.heap.size = i
    · subst e
      simp
    · rw [if_neg e, if_neg (fun h => e h.symm), if_neg (fun h => e h.symm)]
  show ({ w with heap := (w.heap.push o).setIfInBounds w.heap.size o' } : World) = { w with heap := w.heap.push o' }
  rw [h]
theorem ins_run {es : Array MapEntry} {clock : Nat} {key v : Value} (hc : ∀ W, (Instr.checkKey false 10000 3 key).run Tryz.prog W = .ok () W) (hf : ∀ W, (Instr.findKey 3 key es.toList).run Tryz.prog W = .ok none W) (w : World) :
    (Instr.mapUpdate 90 (.map (some w.heap.size)) key v).run Tryz.prog (w.alloc (.map es clock)) = .ok () (w.alloc (.map (es.push ⟨key, v, clock⟩) (clock + 1))) := by
  have hb : (w.alloc (.map es clock)).heap[w.heap.size]? = some (.map es clock) := heap_alloc_new w _
  have hu := Tryz.underlying90
  simp only [Instr.mapUpdate, Sem.run_bind, run_underlying hu, Result.andThen_ok, MapKept.run_getObj_map hb, hc, hf, MapKept.run_setObj_map _ hb, alloc_set]

set_option maxRecDepth 100000 in
theorem hk_chk (k : Int) (W : World) : (Instr.checkKey false 10000 3 (.int .i64 k)).run Tryz.prog W = .ok () W := by kernel_rfl
set_option maxRecDepth 100000 in
theorem hk_find0 (W : World) : (Instr.findKey 3 (.int .i64 1) (hEs 0).toList).run Tryz.prog W = .ok none W := by kernel_rfl
set_option maxRecDepth 100000 in
theorem hk_find1 (W : World) : (Instr.findKey 3 (.int .i64 2) (hEs 1).toList).run Tryz.prog W = .ok none W := by kernel_rfl
set_option maxRecDepth 100000 in
theorem hk_find2 (W : World) : (Instr.findKey 3 (.int .i64 3) (hEs 2).toList).run Tryz.prog W = .ok none W := by kernel_rfl
set_option maxRecDepth 100000 in
theorem hk_find3 (W : World) : (Instr.findKey 3 (.int .i64 4) (hEs 3).toList).run Tryz.prog W = .ok none W := by kernel_rfl
set_option maxRecDepth 100000 in
theorem hk_find4 (W : World) : (Instr.findKey 3 (.int .i64 5) (hEs 4).toList).run Tryz.prog W = .ok none W := by kernel_rfl
set_option maxRecDepth 100000 in
theorem hk_find5 (W : World) : (Instr.findKey 3 (.int .i64 1) (hEs 5).toList).run Tryz.prog W = .ok (some (0, hfn 43)) W := by kernel_rfl
theorem h_look {w : World} {B : Nat} (hb : w.heap[B]? = some (.map (hEs 5) 5)) : (Instr.lookup 90 (.map (some B)) (.int .i64 1) true).run Tryz.prog w = .ok (.tuple #[hfn 43, .bool true]) w := by
  have hu := Tryz.underlying90
  have he : (hEs 5).isEmpty = false := rfl
  simp only [Instr.lookup, Sem.run_bind, run_underlying hu, Result.andThen_ok, MapKept.run_getObj_map hb, he, hk_chk, hk_find5, Sem.run_pure, if_true]

set_option maxRecDepth 100000 in
theorem handlers_aw (w : World) : Calls Tryz.prog 27 #[] w fun e w' => e = .returned (.map (some w.heap.size)) ∧ w' = w.alloc (.map (hEs 5) 5) := by
  have hmm := @run_makeMap Tryz.prog
  have h0 := ins_run (v := hfn 43) (clock := 0) (hk_chk 1) hk_find0 w
  have h1 := ins_run (v := hfn 44) (clock := 1) (hk_chk 2) hk_find1 w
  have h2 := ins_run (v := hfn 45) (clock := 2) (hk_chk 3) hk_find2 w
  have h3 := ins_run (v := hfn 46) (clock := 3) (hk_chk 4) hk_find3 w
  have h4 := ins_run (v := hfn 47) (clock := 4) (hk_chk 5) hk_find4 w
  unfold hEs hfn at h0 h1 h2 h3 h4
  go_enter Tryz.func27, Tryz.ntmps27
  go_wp2_with fail
  go_ret
  exact ⟨rfl, rfl⟩
theorem handlers_ab (w : World) : Calls Tryz.prog 27 #[] w fun e w' => ∃ B, e = .returned (.map (some B)) ∧ w'.heap[B]? = some (.map (hEs 5) 5) ∧ Below w.heap.size w w' :=
  (handlers_aw w).mono fun e w' ⟨h1, h2⟩ => ⟨_, h1, by rw [h2]; exact heap_alloc_new _ _, by rw [h2]; exact (Below.refl _ _).alloc (Nat.le_refl _) _⟩
end Go.Proofs.YtbeikfopneeodaaGreat
namespace Go.Proofs.YtbeikfopneeodaaGreat
open Go.RowKit
set_option linter.unusedVariables false

set_option maxRecDepth 100000 in
theorem cmd_info0 : (Tryz.prog.info? 74).map (·.size) = some 6 := by kernel_rfl
theorem cmd_info (l cl : Nat) : (Tryz.prog.info? 74).map (·.size) = some (cmdC l cl).size := cmd_info0
def DoPost (w : World) (e : Ending) (w' : World) : Prop := ∃ g l cl p cp O B cb C cc, e = .returned (.tuple #[.agg (offL g 1 l cl (.slice (some ⟨p, 0, none⟩) 4 cp) (.slice (some ⟨O, 0, none⟩) 16 16)), .int .i64 0]) ∧ PoAt w' p ∧ Has w' O (out2 (.slice (some ⟨B, 0, none⟩) 1 cb)) 75 ∧ w'.cell? ⟨B, 3, none⟩ = some (.slice (some ⟨C, 0, none⟩) 2 cc) ∧ B < w'.heap.size ∧ (w.heap.size ≤ O ∧ w.heap.size ≤ B ∧ w.heap.size ≤ p) ∧ Below w.heap.size w w'

set_option maxRecDepth 100000 in
set_option maxHeartbeats 4000000 in
theorem do_aw (g b c c' l cl O : Nat) (w : World) (h : TrAt w g b c) (hO : Has w O nil16 75) (hl : LossAt w l) :
    Calls Tryz.prog 20 #[.agg (offC g c' (.slice (some ⟨O, 0, none⟩) 16 16)), .agg (cmdC l cl)] w (DoPost w) := by
  have HT0 := Lib.hid h
  have HO0 := Lib.hid hO
  have HL0 := Lib.hid hl
  clear h hO hl
  have HA : Hid (offC g c' (.slice (some ⟨O, 0, none⟩) 16 16) = #[.int .i64 0, .slice (some ⟨g, 0, none⟩) 1 c', .slice none 0 0, .slice none 0 0, .slice none 0 0, .slice none 0 0, .int .i64 0, .slice none 0 0, .slice (some ⟨O, 0, none⟩) 16 16]) := Lib.hid rfl
  unfold offC cmdC
  go_enter Tryz.func20, Tryz.ntmps20
  go_upto_region 1 with (fail)
  obtain ⟨v0, hv⟩ : ∃ W, ((w.alloc (.cells #[.int .i64 0, .slice (some ⟨g, 0, none⟩) 1 c', .slice none 0 0, .slice none 0 0, .slice none 0 0, .slice none 0 0, .int .i64 0, .slice none 0 0, .slice (some ⟨O, 0, none⟩) 16 16] 67)).alloc (.cells #[.int .i64 1, .slice (some ⟨l, 0, none⟩) 1 cl, .int .i64 0, .int .i64 0, .int .i64 0, .int .i64 0] 74)).alloc (.cells offZ 67) = W := ⟨_, rfl⟩
  have hb : Below w.heap.size w v0 := by rw [← hv]; exact (by (repeat' (first | (with_reducible exact Below.refl _ _) | (with_reducible refine Below.setCell ?_ ?_ _) | (with_reducible refine below_drewN ?_ _) | (with_reducible refine Below.drew ?_) | (with_reducible refine Below.alloc ?_ ?_ _))) <;> (first | omega | (simp <;> omega)))
  have HP : Hid (Has v0 w.heap.size (offC g c' (.slice (some ⟨O, 0, none⟩) 16 16)) 67) := Lib.hid (by rw [← hv]; exact ((Has.new _ _ _).alloc _).alloc _)
  have HC : Hid (Has v0 (w.heap.size + 1) (cmdC l cl) 74) := Lib.hid (by rw [← hv]; exact (Has.new' _ _ _ _ (by simp)).alloc _)
  have HR : Hid (Has v0 (w.heap.size + 1 + 1) offZ 67) := Lib.hid (by rw [← hv]; exact Has.new' _ _ _ _ (by simp))
  have HZ : Hid (v0.heap.size = w.heap.size + 3) := Lib.hid (by rw [← hv]; simp)
  have HB := Lib.hid hb
  unfold offZ at hv
  rw [hv]
  clear hb hv
  obtain ⟨P, hP⟩ : ∃ Q, w.heap.size = Q := ⟨_, rfl⟩
  obtain ⟨C, hC⟩ : ∃ Q, w.heap.size + 1 = Q := ⟨_, rfl⟩
  obtain ⟨R, hR⟩ : ∃ Q, w.heap.size + 1 + 1 = Q := ⟨_, rfl⟩
  have HN : Hid (w.heap.size = P ∧ C = P + 1 ∧ R = P + 2 ∧ P + 3 ≤ v0.heap.size) := Lib.hid (by have := HZ.out; omega)
  rw [hR] at HR ⊢
  rw [hC] at HC ⊢
  rw [hP] at HP ⊢
  clear hP hC hR HZ
  have HSV : Hid (∀ V, Below v0.heap.size v0 V → V.cell? ⟨C, 0, none⟩ = some (.int .i64 1)) := Lib.hid fun V hb => (HC.out.below hb HC.out.lt).cell 0
  have HBB : Hid (Below v0.heap.size v0 v0.drew) := Lib.hid (Below.drew (Below.refl _ _))
  go_region_held3 (fun V => V.cell? ⟨C, 0, none⟩ = some (.int .i64 1)) (exact HSV.out _ HBB.out) (first
    | (go_at_call 27; refine (handlers_ab _).mono ?_; rintro e w1 ⟨MB, rfl, hmb, hb⟩; replace HBB : Hid (Below v0.heap.size v0 w1) := Lib.hid (HBB.out.trans (hb.mono HBB.out.size)); have hlk := h_look hmb; unfold hfn at hlk; clear hmb hb))
  replace HB := Lib.hid (HB.out.trans (HBB.out.mono HB.out.size))
  replace HP := Lib.hid (HP.out.below HBB.out HP.out.lt)
  replace HC := Lib.hid (HC.out.below HBB.out HC.out.lt)
  replace HR := Lib.hid (HR.out.below HBB.out HR.out.lt)
  replace HN : Hid (w.heap.size = P ∧ C = P + 1 ∧ R = P + 2 ∧ P + 3 ≤ w1.heap.size) := Lib.hid (by have := HN.out; have := HBB.out.size; omega)
  clear HBB HSV hlk
  have HOI := Lib.hid (off_info g c' (.slice (some ⟨O, 0, none⟩) 16 16))
  have CC := Lib.hid (copied_do g b c c' O w1 (HT0.out.later HB.out) (HO0.out.below HB.out HO0.out.lt))
  go_wp2_with (refine wpList_load_has ?_ 67 (.tmp 2) ?_ P ?_ _ (offC g c' (.slice (some ⟨O, 0, none⟩) 16 16)) _ HP.out Tryz.underlying67 ?_ HOI.out ?_; rfl; rfl; rfl; rfl)
  refine CC.out.mono ?_
  rintro e w2 ⟨g2, b2, c2, O2, rfl, hT, hO, hn, hbl, hb⟩
  have HT2 := Lib.hid hT
  have HO2 := Lib.hid hO
  have HBL := Lib.hid hbl
  have HN2 : Hid (P + 3 ≤ g2 ∧ P + 3 ≤ b2 ∧ P + 3 ≤ O2 ∧ g2 ≠ O2 ∧ b2 ≠ O2) := Lib.hid (by have := HN.out; omega)
  replace HB := Lib.hid (HB.out.trans (hb.mono HB.out.size))
  replace HP := Lib.hid (HP.out.below hb HP.out.lt)
  replace HC := Lib.hid (HC.out.below hb HC.out.lt)
  replace HR := Lib.hid (HR.out.below hb HR.out.lt)
  clear CC hT hO hn hb hbl
  have HOI2 := Lib.hid (off_info g2 1 (.slice (some ⟨O2, 0, none⟩) 16 16))
  go_upto_region 5 with (refine wpList_store_has ?_ 67 (.tmp 8) (.tmp 23) ?_ w2.heap.size ?_ (offC g2 1 (.slice (some ⟨O2, 0, none⟩) 16 16)) ?_ _ _ (Has.new' w2 w2.heap.size offZ _ rfl) HOI2.out ?_ ?_ ?_; rfl; rfl; rfl; rfl; rfl; rfl; intro w3 hh hl)
  have hb3 : Below w2.heap.size w2 w3 := ((Below.refl _ _).alloc (Nat.le_refl _) _).trans (hl.below (fun k (hk : k = w2.heap.size) => by omega) (by simp))
  have HNN := Lib.hid hh
  replace HB := Lib.hid (HB.out.trans (hb3.mono HB.out.size))
  replace HP := Lib.hid (HP.out.below hb3 HP.out.lt)
  replace HC := Lib.hid (HC.out.below hb3 HC.out.lt)
  replace HR := Lib.hid (HR.out.below hb3 HR.out.lt)
  have HTL : Hid (g2 < w2.heap.size ∧ b2 < w2.heap.size ∧ O2 < w2.heap.size ∧ l < w.heap.size ∧ R < w2.heap.size) := Lib.hid ⟨HT2.out.box.lt, HBL.out, HO2.out.lt, HL0.out.lt, by have := HN.out; have := HN2.out; have := HO2.out.lt; omega⟩
  replace HT2 := Lib.hid (HT2.out.later hb3)
  replace HO2 := Lib.hid (HO2.out.below hb3 HO2.out.lt)
  clear hb3 hh hl
  obtain ⟨N, hN⟩ : ∃ Q, w2.heap.size = Q := ⟨_, rfl⟩
  have HN3 : Hid (w.heap.size = P ∧ C = P + 1 ∧ R = P + 2 ∧ P + 3 ≤ g2 ∧ P + 3 ≤ b2 ∧ P + 3 ≤ O2 ∧ g2 ≠ O2 ∧ b2 ≠ O2 ∧ g2 < N ∧ b2 < N ∧ O2 < N ∧ l < P ∧ N < w3.heap.size) := Lib.hid (by have := HN.out; have := HN2.out; have := HTL.out; have := HNN.out.lt; omega)
  rw [hN] at HNN ⊢
  clear hN HN HN2 HTL HBL
  have HCI := Lib.hid (cmd_info l cl)
  have CR := Lib.hid (report_aw N g2 b2 c2 l cl O2 w3 HNN.out HT2.out (HL0.out.below HB.out HL0.out.lt) (by have := HN3.out; omega))
  go_wp2_with (refine wpList_load_has ?_ 74 (.tmp 3) ?_ C ?_ _ (cmdC l cl) _ HC.out Tryz.underlying74 ?_ HCI.out ?_; rfl; rfl; rfl; rfl)
  refine CR.out.mono ?_
  rintro e w4 ⟨l2, cl2, p, cp, rfl, hN4, hp, hpb, hl⟩
  have HN4 := Lib.hid hN4
  have HPO := Lib.hid hp
  have HN5 : Hid (N < p ∧ p < w4.heap.size ∧ N < w4.heap.size) := Lib.hid (by have := HN3.out; have := hp.2; have := hN4.lt; omega)
  replace HB := Lib.hid (HB.out.trans (hl.new_or (by have := HN3.out; omega) HB.out.size))
  replace HP := Lib.hid (HP.out.leaves hl (by have := HN3.out; show ¬ P = N; omega))
  replace HC := Lib.hid (HC.out.leaves hl (by have := HN3.out; show ¬ C = N; omega))
  replace HR := Lib.hid (HR.out.leaves hl (by have := HN3.out; show ¬ R = N; omega))
  replace HO2 := Lib.hid (HO2.out.leaves hl (by have := HN3.out; show ¬ O2 = N; omega))
  clear hN4 hp hpb hl CR HNN HT2
  have p7 : w4.cell? ⟨P, 7, none⟩ = some (.slice none 0 0) := HP.out.cell 7
  have CI := Lib.hid (inform_aw N O2 p cp (offL g2 1 l2 cl2 (.slice (some ⟨p, 0, none⟩) 4 cp) (.slice (some ⟨O2, 0, none⟩) 16 16)) rfl rfl rfl w4 HN4.out HO2.out (by have := HN3.out; omega) HPO.out (by have := HN3.out; have := HN5.out; omega))
  go_wp2_with fail
  refine CI.out.mono ?_
  rintro e w5 ⟨rfl, ⟨B, cb, D, cd, hO5, hc5, hB5, hB6⟩, hl⟩
  have HO5 : Hid (Has w5 O2 (out2 (.slice (some ⟨B, 0, none⟩) 1 cb)) 75 ∧ w5.cell? ⟨B, 3, none⟩ = some (.slice (some ⟨D, 0, none⟩) 2 cd) ∧ B < w5.heap.size ∧ R < B) := Lib.hid ⟨hO5, hc5, hB6, by have := HN3.out; have := HN5.out; omega⟩
  replace HB := Lib.hid (HB.out.trans (hl.new_or (by have := HN3.out; omega) HB.out.size))
  replace HC := Lib.hid (HC.out.leaves hl (by have := HN3.out; show ¬ C = O2; omega))
  replace HR := Lib.hid (HR.out.leaves hl (by have := HN3.out; show ¬ R = O2; omega))
  replace HN4 := Lib.hid (HN4.out.leaves hl (by have := HN3.out; show ¬ N = O2; omega))
  replace HPO := Lib.hid (HPO.out.leaves hl (by have := HN3.out; have := HN5.out; show ¬ p = O2; omega))
  clear hO5 hc5 hB5 hB6 hl CI p7 HP HO2
  have c0 : w5.cell? ⟨C, 0, none⟩ = some (.int .i64 1) := HC.out.cell 0
  have HOI5 := Lib.hid (offl_info g2 1 l2 cl2 (.slice (some ⟨p, 0, none⟩) 4 cp) (.slice (some ⟨O2, 0, none⟩) 16 16))
  go_wp2_with (first
    | (refine wpList_load_has ?_ 67 (.tmp 8) ?_ N ?_ _ (offL g2 1 l2 cl2 (.slice (some ⟨p, 0, none⟩) 4 cp) (.slice (some ⟨O2, 0, none⟩) 16 16)) _ HN4.out Tryz.underlying67 ?_ HOI5.out ?_; rfl; rfl; rfl; rfl)
    | (refine wpList_store_has ?_ 67 (.tmp 4) (.tmp 50) ?_ R ?_ (offL g2 1 l2 cl2 (.slice (some ⟨p, 0, none⟩) 4 cp) (.slice (some ⟨O2, 0, none⟩) 16 16)) ?_ _ _ HR.out HOI5.out ?_ ?_ ?_; rfl; rfl; rfl; rfl; rfl; rfl; intro w6 hh hl))
  refine bodyPost_ret (results_cell_tmp rfl _ _ R _ (offL g2 1 l2 cl2 (.slice (some ⟨p, 0, none⟩) 4 cp) (.slice (some ⟨O2, 0, none⟩) 16 16)) _ _ (.int .i64 0) ?_ ?_ hh Tryz.underlying67 rfl HOI5.out) rfl ?_
  · rfl
  · rfl
  have hs := hl.size
  obtain ⟨o1, o2, o3, o4⟩ := HO5.out
  exact ⟨g2, l2, cl2, p, cp, O2, B, cb, D, cd, rfl, HPO.out.leaves hl (by have := HN3.out; have := HN5.out; show ¬ p = R; omega), o1.leaves hl (by have := HN3.out; show ¬ O2 = R; omega), (cell_leaves hl o3 (by show ¬ B = R; omega)).trans o2, by omega, by have := HN3.out; have := HN5.out; omega, HB.out.trans (hl.new_or (by have := HN3.out; omega) HB.out.size)⟩
end Go.Proofs.YtbeikfopneeodaaGreat
