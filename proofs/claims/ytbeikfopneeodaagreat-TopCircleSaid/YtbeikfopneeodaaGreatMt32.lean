/- office.write of the two rows of the example for party 2 (printed by wip/gen/tdm.py). slices.Chunk over postings: no chunk of nil, one of two postings. -/
import Derived.Test.YtbeikfopneeodaaGreatMt14
import Derived.Test.YtbeikfopneeodaaGreatMt31
import Derived.Test.YtbeikfopneeodaaGreatMt13
import Derived.Test.YtbeikfopneeodaaGreatMt21
import Derived.RangeFuncNested
import Derived.RangeFuncBound
import Derived.RangeFuncCalls
import Derived.RangeFuncLeaves
import Derived.RangeFuncBox
import Derived.RangeFuncFrom
import Derived.Shelf.Abstract
import Derived.WalkKit
import Derived.OwnWalkIn
import Derived.TacticsInMore
import Derived.LoopNIn
import Derived.LoopIn
import Derived.RegionIn
import Derived.BigRegionIn
namespace Go.Proofs.YtbeikfopneeodaaGreat
open Go.RowKit
set_option linter.unusedVariables false

/-- the two rows of party 2 -/
def poR : List Value := [.int .i64 2, .int .i64 0, .int .i64 1, .int .i64 1, .int .i64 2, .int .i64 7, .int .i64 15, .int .i64 4, .int .i64 0, .int .i64 2, .int .i64 1, .int .i64 2, .int .i64 7, .int .i64 35]
theorem poR_one (j : Nat) (hj : j < 14) : (poR[j]!).oneCell' = true := by
  match j, hj with
  | 0, _ | 1, _ | 2, _ | 3, _ | 4, _ | 5, _ | 6, _ | 7, _ | 8, _ | 9, _ | 10, _ | 11, _ | 12, _ | 13, _ => rfl
  | n + 14, h => exact absurd h (by omega)
set_option maxRecDepth 100000 in
theorem bo_all : (Tryz.prog.info? 77).map (fun i => (i.zero, i.size, i.bytes)) = some (some (.agg #[.int .i64 0, .int .i64 0, .int .i64 0, .slice none 0 0]), 4, 48) := by kernel_rfl
/-- the lists of bordereaux, that of party 2 being l -/
def out2 (l : Value) : Array Value := nil16.setIfInBounds 2 l
/-- what write leaves: one bordereau of two rows -/
def WritePost (O : Nat) (w : World) (e : Ending) (w' : World) : Prop := ∃ B cb C cc, e = .returned (.tuple #[]) ∧ Has w' O (out2 (.slice (some ⟨B, 0, none⟩) 1 cb)) 75 ∧ w'.cell? ⟨B, 3, none⟩ = some (.slice (some ⟨C, 0, none⟩) 2 cc) ∧ (w.heap.size ≤ B ∧ B < w'.heap.size) ∧ Leaves (fun k => k = O) w w'

set_option maxRecDepth 100000 in
set_option maxHeartbeats 4000000 in
theorem write_aw (N O R c : Nat) (cs : Array Value) (hc6 : cs[6]? = some (.int .i64 0)) (hc8 : cs[8]? = some (.slice (some ⟨O, 0, none⟩) 16 16)) (w : World) (hN : Has w N cs 67) (hO : Has w O nil16 75) (hNO : N ≠ O) (hR : Cells w w.heap.size (some ⟨R, 0, none⟩) (2 * 7) (fun j => poR[j]!)) :
    Calls Tryz.prog 30 #[.pointer (some ⟨N, 0, none⟩), .int .i64 2, .slice (some ⟨R, 0, none⟩) 2 c] w (WritePost O w) := by
  have HN := Lib.hid hN
  have HO := Lib.hid hO
  have HR := Lib.hid hR
  have n8 : w.cell? ⟨N, 8, none⟩ = some (.slice (some ⟨O, 0, none⟩) 16 16) := (hN.cell 8).trans hc8
  have n6 : w.cell? ⟨N, 6, none⟩ = some (.int .i64 0) := (hN.cell 6).trans hc6
  have o2 : w.cell? ⟨O, 2, none⟩ = some (.slice none 0 0) := (hO.cell 2).trans (nil16_at (by omega))
  have HF : Hid (cs[6]? = some (.int .i64 0) ∧ cs[8]? = some (.slice (some ⟨O, 0, none⟩) 16 16) ∧ N ≠ O ∧ N < w.heap.size ∧ O < w.heap.size) := Lib.hid ⟨hc6, hc8, hNO, hN.lt, hO.lt⟩
  clear hN hO hR hc6 hc8 hNO
  go_enter Tryz.func30, Tryz.ntmps30
  go_upto_region 4 with (fail)
  clear n8 n6 o2
  have HSV : Hid (∀ V, Below w.heap.size w V → V.cell? ⟨N, 6, none⟩ = some (.int .i64 0)) := Lib.hid fun V hb => ((HN.out.below hb HN.out.lt).cell 6).trans HF.out.1
  have HBB : Hid (Below w.heap.size w w.drew) := Lib.hid (Below.drew (Below.refl _ _))
  have CL : Hid (∀ V, Below w.heap.size w V → Calls Tryz.prog 39 #[.slice (some ⟨R, 0, none⟩) 2 c] V (RowM 2 7 101 (fun j => poR[j]!) V)) := Lib.hid fun V hb => clone_po ⟨R, 0, none⟩ 2 c _ V (by omega) (by omega) ((HR.out.below hb).mono hb.size) (fun j hj => poR_one j hj)
  go_region_held3 (fun V => V.cell? ⟨N, 6, none⟩ = some (.int .i64 0)) (first | exact HSV.out _ HBB.out | exact HSV.out _ (by (repeat' (first | (with_reducible exact HBB.out) | (with_reducible exact Below.refl _ _) | (with_reducible refine Below.setCell ?_ ?_ _) | (with_reducible refine below_drewN ?_ _) | (with_reducible refine Below.drew ?_) | (with_reducible refine Below.alloc ?_ ?_ _))) <;> (first | (have hsz := HBB.out.size; simp at hsz ⊢; omega) | (have hsz := HBB.out.size; simp at hsz ⊢)))) (first
    | (go_at_call 39; first
      | (refine (CL.out _ HBB.out).mono ?_; rintro e w4 ⟨C, cc, rfl, _, hb⟩; replace HBB : Hid (Below w.heap.size w w4) := Lib.hid (HBB.out.trans (hb.mono HBB.out.size)); clear hb)
      | (refine (CL.out _ (by (repeat' (first | (with_reducible exact HBB.out) | (with_reducible exact Below.refl _ _) | (with_reducible refine Below.setCell ?_ ?_ _) | (with_reducible refine below_drewN ?_ _) | (with_reducible refine Below.drew ?_) | (with_reducible refine Below.alloc ?_ ?_ _))) <;> (first | (have hsz := HBB.out.size; simp at hsz ⊢; omega) | (have hsz := HBB.out.size; simp at hsz ⊢)))).mono ?_; rintro e w4 ⟨C, cc, rfl, _, hb⟩; have z4 : Has w4 w.heap.size #[.int .i64 0, .int .i64 0, .int .i64 0, .slice none 0 0] 77 := Has.below (Has.drew (Has.new _ _ _)) hb (by simp); replace HBB : Hid (Below w.heap.size w w4) := Lib.hid (Below.trans (b := (w.alloc (.cells #[.int .i64 0, .int .i64 0, .int .i64 0, .slice none 0 0] 77)).drew) (by (repeat' (first | (with_reducible exact HBB.out) | (with_reducible exact Below.refl _ _) | (with_reducible refine Below.setCell ?_ ?_ _) | (with_reducible refine below_drewN ?_ _) | (with_reducible refine Below.drew ?_) | (with_reducible refine Below.alloc ?_ ?_ _))) <;> (first | (have hsz := HBB.out.size; simp at hsz ⊢; omega) | (have hsz := HBB.out.size; simp at hsz ⊢))) (hb.mono (by simp))); obtain ⟨z0, zf, zl⟩ := z4.rules; have z00 := z0 0; have z01 := z0 1; have z02 := z0 2; have z03 := z0 3; clear hb z0)))
  · have hX : Has (w4.alloc (.cells #[.int .i64 1, .int .i64 2, .int .i64 0, .slice (some ⟨C, 0, none⟩) 2 cc] 77)) w4.heap.size #[.int .i64 1, .int .i64 2, .int .i64 0, .slice (some ⟨C, 0, none⟩) 2 cc] 77 := Has.new _ _ _
    have hW : Below w.heap.size w (w4.alloc (.cells #[.int .i64 1, .int .i64 2, .int .i64 0, .slice (some ⟨C, 0, none⟩) 2 cc] 77)) := (by (repeat' (first | (with_reducible exact HBB.out) | (with_reducible exact Below.refl _ _) | (with_reducible refine Below.setCell ?_ ?_ _) | (with_reducible refine below_drewN ?_ _) | (with_reducible refine Below.drew ?_) | (with_reducible refine Below.alloc ?_ ?_ _))) <;> (first | (have hsz := HBB.out.size; simp at hsz ⊢; omega) | (have hsz := HBB.out.size; simp at hsz ⊢)))
    have hXg : w.heap.size ≤ w4.heap.size := HBB.out.size
    obtain ⟨W, hWe⟩ : ∃ W, w4.alloc (.cells #[.int .i64 1, .int .i64 2, .int .i64 0, .slice (some ⟨C, 0, none⟩) 2 cc] 77) = W := ⟨_, rfl⟩
    obtain ⟨X, hXe⟩ : ∃ X, w4.heap.size = X := ⟨_, rfl⟩
    rw [hWe] at hX hW ⊢
    rw [hXe] at hX hXg ⊢
    clear hWe hXe
    replace HBB := Lib.hid hW
    have HX := Lib.hid hX
    have HXG : Hid (w.heap.size ≤ X) := Lib.hid hXg
    clear hX hW hXg HSV CL
    have x0 : W.cell? ⟨X, 0, none⟩ = some (.int .i64 1) := HX.out.cell 0
    have x1 : W.cell? ⟨X, 1, none⟩ = some (.int .i64 2) := HX.out.cell 1
    have x2 : W.cell? ⟨X, 2, none⟩ = some (.int .i64 0) := HX.out.cell 2
    have x3 : W.cell? ⟨X, 3, none⟩ = some (.slice (some ⟨C, 0, none⟩) 2 cc) := HX.out.cell 3
    have xl := HX.out.lt
    have n8 : W.cell? ⟨N, 8, none⟩ = some (.slice (some ⟨O, 0, none⟩) 16 16) := ((HN.out.below HBB.out HN.out.lt).cell 8).trans HF.out.2.1
    have nl : N < W.heap.size := (HN.out.below HBB.out HN.out.lt).lt
    have hs : w.heap.size ≤ W.heap.size := HBB.out.size
    obtain ⟨i0, hi0, hz0, hz1, hz2⟩ := info_parts bo_all
    have HI := Lib.hid hi0
    have HZ0 := Lib.hid hz0
    have HZ1 := Lib.hid hz1
    have HZ2 := Lib.hid hz2
    clear hi0 hz0 hz1 hz2
    go_wp2_with fail
    go_region_law (first
      | (refine step_append_lies _ (by rfl) _ _ _ (by rfl) w.heap.size 77 i0 _ 4 48 Tryz.underlying75 HI.out HZ0.out HZ1.out HZ2.out rfl (by omega) (.slice none 0 0) 0 [] (by rfl) (own_nil _ _ _ _) ⟨W.heap.size, 0, none⟩ 1 1 [.int .i64 1, .int .i64 2, .int .i64 0, .slice (some ⟨C, 0, none⟩) 2 cc] (by rfl) (by rfl) (World.news_of_block (cs := #[.int .i64 1, .int .i64 2, .int .i64 0, .slice (some ⟨C, 0, none⟩) 2 cc]) (t := 77) (fr := (0, 0)) (heap_alloc_new W _)) (by simp [Value.oneCell']) (by omega) (by unfold maxLen; omega) (by omega) (by simp; omega) (W.heap.size + 1) (by simp) ?_; intro gg cp w8 hown hgrow hat hltg; have h8 : Below W.heap.size W w8 := ((((Below.refl _ _).alloc (Nat.le_refl _) _).drew).grown hgrow (by simp) (fun q hq => by cases hq)); have hO8 := (HO.out.below (HBB.out.trans (h8.mono HBB.out.size)) HO.out.lt); have o2 : w8.cell? ⟨O, 2, none⟩ = some (.slice none 0 0) := (hO8.cell 2).trans (nil16_at (by omega)); have of2 : w8.frozen? ⟨O, 2, none⟩ = false := hO8.free _; have ol := hO8.lt; have n8w : w8.cell? ⟨N, 8, none⟩ = some (.slice (some ⟨O, 0, none⟩) 16 16) := ((HN.out.below (HBB.out.trans (h8.mono HBB.out.size)) HN.out.lt).cell 8).trans HF.out.2.1; have nl8 : N < w8.heap.size := (HN.out.below (HBB.out.trans (h8.mono HBB.out.size)) HN.out.lt).lt))
    all_goals
      have hgg : w.heap.size ≤ gg := by rcases hat with h | h <;> first | (cases h; done) | omega
      have hO9 : Has (w8.setCell ⟨O, 2, none⟩ (.slice (some ⟨gg, 0, none⟩) 1 cp)) O (out2 (.slice (some ⟨gg, 0, none⟩) 1 cp)) 75 := hO8.put 2 _
      have ho := Own.of_row (F := fun j => [.int .i64 1, .int .i64 2, .int .i64 0, .slice (some ⟨C, 0, none⟩) 2 cc].getD j undef) hown (fun j hj => by
        have hj : j < 4 := hj
        match j, hj with
        | 0, _ | 1, _ | 2, _ | 3, _ => rfl
        | n + 4, h => exact absurd h (by omega))
      have hne : gg ≠ O := by have := HF.out; omega
      have c3 : (w8.setCell ⟨O, 2, none⟩ (.slice (some ⟨gg, 0, none⟩) 1 cp)).cell? ⟨gg, 3, none⟩ = some (.slice (some ⟨C, 0, none⟩) 2 cc) := (cell_far hne).trans (ho.cell (by omega))
      have hl9 : Leaves (fun k => k = O) w (w8.setCell ⟨O, 2, none⟩ (.slice (some ⟨gg, 0, none⟩) 1 cp)) := (leaves_of (HBB.out.trans (h8.mono HBB.out.size))).at _ _
      have HE : Hid (WritePost O w (.returned (.tuple #[])) (w8.setCell ⟨O, 2, none⟩ (.slice (some ⟨gg, 0, none⟩) 1 cp))) := Lib.hid ⟨gg, cp, C, cc, rfl, hO9, c3, ⟨hgg, by simpa using ho.lt⟩, hl9⟩
      clear hgg hO9 ho hne c3 hl9 hown hgrow hat hltg h8 hO8 o2 of2 ol n8w nl8
      go_wp2_with fail
      refine bodyPost_end (results_none rfl _ _ _) rfl ?_
      exact HE.out
  · obtain ⟨X, hXe⟩ : ∃ X, w.heap.size = X := ⟨_, rfl⟩
    have hX : Has (((((w4.setCell ⟨X, 0, none⟩ (.int .i64 1)).setCell ⟨X, 1, none⟩ (.int .i64 2)).setCell ⟨X, 2, none⟩ (.int .i64 0)).setCell ⟨X, 3, none⟩ (.slice (some ⟨C, 0, none⟩) 2 cc))) X #[.int .i64 1, .int .i64 2, .int .i64 0, .slice (some ⟨C, 0, none⟩) 2 cc] 77 := by rw [← hXe]; exact (((z4.put 0 _).put 1 _).put 2 _).put 3 _
    have hW : Below w.heap.size w (((((w4.setCell ⟨X, 0, none⟩ (.int .i64 1)).setCell ⟨X, 1, none⟩ (.int .i64 2)).setCell ⟨X, 2, none⟩ (.int .i64 0)).setCell ⟨X, 3, none⟩ (.slice (some ⟨C, 0, none⟩) 2 cc))) := by rw [← hXe]; exact (by (repeat' (first | (with_reducible exact HBB.out) | (with_reducible exact Below.refl _ _) | (with_reducible refine Below.setCell ?_ ?_ _) | (with_reducible refine below_drewN ?_ _) | (with_reducible refine Below.drew ?_) | (with_reducible refine Below.alloc ?_ ?_ _))) <;> (first | (have hsz := HBB.out.size; simp at hsz ⊢; omega) | (have hsz := HBB.out.size; simp at hsz ⊢)))
    have hXg : w.heap.size ≤ X := by omega
    rw [hXe] at z4 z00 z01 z02 z03 zf zl ⊢
    obtain ⟨W, hWe⟩ : ∃ W, ((((w4.setCell ⟨X, 0, none⟩ (.int .i64 1)).setCell ⟨X, 1, none⟩ (.int .i64 2)).setCell ⟨X, 2, none⟩ (.int .i64 0)).setCell ⟨X, 3, none⟩ (.slice (some ⟨C, 0, none⟩) 2 cc)) = W := ⟨_, rfl⟩
    rw [hWe] at hX hW ⊢
    clear hWe z4 z00 z01 z02 z03 zf zl
    replace HBB := Lib.hid hW
    have HX := Lib.hid hX
    have HXG : Hid (w.heap.size ≤ X) := Lib.hid hXg
    clear hX hW hXg HSV CL
    have x0 : W.cell? ⟨X, 0, none⟩ = some (.int .i64 1) := HX.out.cell 0
    have x1 : W.cell? ⟨X, 1, none⟩ = some (.int .i64 2) := HX.out.cell 1
    have x2 : W.cell? ⟨X, 2, none⟩ = some (.int .i64 0) := HX.out.cell 2
    have x3 : W.cell? ⟨X, 3, none⟩ = some (.slice (some ⟨C, 0, none⟩) 2 cc) := HX.out.cell 3
    have xl := HX.out.lt
    have n8 : W.cell? ⟨N, 8, none⟩ = some (.slice (some ⟨O, 0, none⟩) 16 16) := ((HN.out.below HBB.out HN.out.lt).cell 8).trans HF.out.2.1
    have nl : N < W.heap.size := (HN.out.below HBB.out HN.out.lt).lt
    have hs : w.heap.size ≤ W.heap.size := HBB.out.size
    obtain ⟨i0, hi0, hz0, hz1, hz2⟩ := info_parts bo_all
    have HI := Lib.hid hi0
    have HZ0 := Lib.hid hz0
    have HZ1 := Lib.hid hz1
    have HZ2 := Lib.hid hz2
    clear hi0 hz0 hz1 hz2
    go_wp2_with fail
    go_region_law (first
      | (refine step_append_lies _ (by rfl) _ _ _ (by rfl) w.heap.size 77 i0 _ 4 48 Tryz.underlying75 HI.out HZ0.out HZ1.out HZ2.out rfl (by omega) (.slice none 0 0) 0 [] (by rfl) (own_nil _ _ _ _) ⟨W.heap.size, 0, none⟩ 1 1 [.int .i64 1, .int .i64 2, .int .i64 0, .slice (some ⟨C, 0, none⟩) 2 cc] (by rfl) (by rfl) (World.news_of_block (cs := #[.int .i64 1, .int .i64 2, .int .i64 0, .slice (some ⟨C, 0, none⟩) 2 cc]) (t := 77) (fr := (0, 0)) (heap_alloc_new W _)) (by simp [Value.oneCell']) (by omega) (by unfold maxLen; omega) (by omega) (by simp; omega) (W.heap.size + 1) (by simp) ?_; intro gg cp w8 hown hgrow hat hltg; have h8 : Below W.heap.size W w8 := ((((Below.refl _ _).alloc (Nat.le_refl _) _).drew).grown hgrow (by simp) (fun q hq => by cases hq)); have hO8 := (HO.out.below (HBB.out.trans (h8.mono HBB.out.size)) HO.out.lt); have o2 : w8.cell? ⟨O, 2, none⟩ = some (.slice none 0 0) := (hO8.cell 2).trans (nil16_at (by omega)); have of2 : w8.frozen? ⟨O, 2, none⟩ = false := hO8.free _; have ol := hO8.lt; have n8w : w8.cell? ⟨N, 8, none⟩ = some (.slice (some ⟨O, 0, none⟩) 16 16) := ((HN.out.below (HBB.out.trans (h8.mono HBB.out.size)) HN.out.lt).cell 8).trans HF.out.2.1; have nl8 : N < w8.heap.size := (HN.out.below (HBB.out.trans (h8.mono HBB.out.size)) HN.out.lt).lt))
    all_goals
      have hgg : w.heap.size ≤ gg := by rcases hat with h | h <;> first | (cases h; done) | omega
      have hO9 : Has (w8.setCell ⟨O, 2, none⟩ (.slice (some ⟨gg, 0, none⟩) 1 cp)) O (out2 (.slice (some ⟨gg, 0, none⟩) 1 cp)) 75 := hO8.put 2 _
      have ho := Own.of_row (F := fun j => [.int .i64 1, .int .i64 2, .int .i64 0, .slice (some ⟨C, 0, none⟩) 2 cc].getD j undef) hown (fun j hj => by
        have hj : j < 4 := hj
        match j, hj with
        | 0, _ | 1, _ | 2, _ | 3, _ => rfl
        | n + 4, h => exact absurd h (by omega))
      have hne : gg ≠ O := by have := HF.out; omega
      have c3 : (w8.setCell ⟨O, 2, none⟩ (.slice (some ⟨gg, 0, none⟩) 1 cp)).cell? ⟨gg, 3, none⟩ = some (.slice (some ⟨C, 0, none⟩) 2 cc) := (cell_far hne).trans (ho.cell (by omega))
      have hl9 : Leaves (fun k => k = O) w (w8.setCell ⟨O, 2, none⟩ (.slice (some ⟨gg, 0, none⟩) 1 cp)) := (leaves_of (HBB.out.trans (h8.mono HBB.out.size))).at _ _
      have HE : Hid (WritePost O w (.returned (.tuple #[])) (w8.setCell ⟨O, 2, none⟩ (.slice (some ⟨gg, 0, none⟩) 1 cp))) := Lib.hid ⟨gg, cp, C, cc, rfl, hO9, c3, ⟨hgg, by simpa using ho.lt⟩, hl9⟩
      clear hgg hO9 ho hne c3 hl9 hown hgrow hat hltg h8 hO8 o2 of2 ol n8w nl8
      go_wp2_with fail
      refine bodyPost_end (results_none rfl _ _ _) rfl ?_
      exact HE.out
end Go.Proofs.YtbeikfopneeodaaGreat
namespace Go.Proofs.YtbeikfopneeodaaGreat
open Go.RowKit Go.Shelf
set_option linter.unusedVariables false
attribute [local go_sem] Oper.semAt_some

set_option maxRecDepth 100000 in
theorem chunk_aw (v : Value) (n : Nat) (A : Option Addr) (c : Nat) (w : World) : Calls Tryz.prog 48 #[.slice A n c, .int .i64 64] w fun e w' => e = .returned (.func (.func 74) #[] #[.pointer (some ⟨w.heap.size, 0, none⟩), .pointer (some ⟨w.heap.size + 1, 0, none⟩)]) ∧ w' = (w.alloc (.cells #[.slice A n c] 62)).alloc (.cells #[.int .i64 64] 3) := by
  go_enter Tryz.func48, Tryz.ntmps48
  go_wp2_with fail
  go_ret
  exact ⟨rfl, rfl⟩

/-- what the loop over chunks leaves alone: all below n₀ but block O -/
abbrev KpO (O n₀ : Nat) : World → World → Prop := Leaves (fun k => k = O ∨ n₀ ≤ k)

set_option maxRecDepth 100000 in
set_option maxHeartbeats 1000000 in
theorem chunk1_nil (n : Nat) (Bs Bn n₀ : Nat) (encs : Unit → Array Value) (Kp : World → World → Prop) (w : World) (hBs : Bs < n₀) (hn₀ : n₀ ≤ w.heap.size) (hc : w.cell? ⟨Bs, 0, none⟩ = some (.slice none 0 0)) :
    SeqStopsK Fence.wide n Tryz.prog 74 #[.pointer (some ⟨Bs, 0, none⟩), .pointer (some ⟨Bn, 0, none⟩)] encs Kp (fun ys => ys = []) (fun _ => False) 0 w := fun l J Jx W hW _ _ hY h0 => by
  have hcs : W.cell? ⟨Bs, 0, none⟩ = some (.slice none 0 0) := (hW.cell (p := ⟨Bs, 0, none⟩) (by show Bs < _; omega)).trans hc
  have HJ := Lib.hid h0
  clear h0 hY
  rw [callsIn_wide]
  go_enter Tryz.func74, Tryz.ntmps74
  go_wp2_with fail
  refine wp_loop_rounds 1 ?_
  rw [rounds_succ]
  go_wp2_with fail
  go_end0
  exact ⟨⟨_, rfl⟩, .inl ⟨[], rfl, HJ.out⟩⟩

set_option maxRecDepth 100000 in
set_option maxHeartbeats 2000000 in
theorem chunk1_two (n : Nat) (hn : 1 ≤ n) (Bs Bn R c O n₀ : Nat) (hc2 : 2 ≤ c) (w : World) (hBs : Bs < n₀ ∧ Bs ≠ O ∧ Bn < n₀ ∧ Bn ≠ O) (hn₀ : n₀ ≤ w.heap.size) (hc : w.cell? ⟨Bs, 0, none⟩ = some (.slice (some ⟨R, 0, none⟩) 2 c)) (hb : w.cell? ⟨Bn, 0, none⟩ = some (.int .i64 64)) :
    SeqStopsK Fence.wide n Tryz.prog 74 #[.pointer (some ⟨Bs, 0, none⟩), .pointer (some ⟨Bn, 0, none⟩)] (fun (_ : Unit) => #[.slice (some ⟨R, 0, none⟩) 2 2]) (KpO O n₀) (fun ys => ys = [()]) (fun ys => ys = [()]) 1 w := fun l J Jx W hW hJ _ hY h0 => by
  have hcs : W.cell? ⟨Bs, 0, none⟩ = some (.slice (some ⟨R, 0, none⟩) 2 c) := (hW.cell (p := ⟨Bs, 0, none⟩) (by show Bs < _; omega)).trans hc
  have hbs : W.cell? ⟨Bn, 0, none⟩ = some (.int .i64 64) := (hW.cell (p := ⟨Bn, 0, none⟩) (by show Bn < _; omega)).trans hb
  have hBl : Bs < W.heap.size ∧ Bn < W.heap.size := ⟨by have := hW.size; omega, by have := hW.size; omega⟩
  have HS := Lib.hid (And.intro hcs (And.intro hbs hBl))
  have hJd : J [] W.drew := hJ [] W W.drew none h0 ⟨rfl, rfl, rfl, Nat.le_refl _, fun _ _ _ => rfl⟩ (fun r e => by cases e)
  obtain ⟨fn, tmps, assign, body, hy, hR⟩ := hY [] () W.drew hJd (by simp)
  have HR := Lib.hid hR
  clear hY h0 hR hW hBl hJd
  refine callsIn_of_wp Tryz.func74 rfl trivial ?_ rfl
  simp only [Tryz.ntmps74, List.size_toArray, List.length_cons, List.length_nil, Nat.reduceAdd, Nat.reduceSub, Array.replicate_succ, Array.replicate_zero, List.push_toArray, List.append_toArray, List.nil_append, List.cons_append]
  have hmin : (min 64 2 : Int) = 2 := by decide
  have hw : IntKind.i64.wrap (0 + 2) = 2 := by decide
  have hw64 : IntKind.i64.wrap (0 + 64) = 64 := by decide
  have hci : (2 : Int) ≤ c := by omega
  gi_wp2
  refine wpIn_loop_rounds 2 ?_
  rw [roundsIn_succ]
  gi_wp2
  gi_region
  gi_wp2
  refine HR.out.mono ?_
  rintro e W3 (⟨rfl, hJ3, hk3⟩ | ⟨rfl, hJx3⟩)
  · obtain ⟨s1, s2, s3, s4⟩ := HS.out
    have hcs3 : W3.cell? ⟨Bs, 0, none⟩ = some (.slice (some ⟨R, 0, none⟩) 2 c) := (cell_leaves hk3 s3 (by omega)).trans s1
    have hbs3 : W3.cell? ⟨Bn, 0, none⟩ = some (.int .i64 64) := (cell_leaves hk3 s4 (by omega)).trans s2
    have HJ3 := Lib.hid hJ3
    clear s1 s2 s3 s4 hJ3 hk3 hy HR
    gi_wp2
    rw [roundsIn_succ]
    gi_wp2
    go_end0
    exact ⟨⟨_, rfl⟩, .inl ⟨_, rfl, HJ3.out⟩⟩
  · have HJ3 := Lib.hid hJx3
    clear hJx3 hy HR
    gi_wp2
    refine bodyPost_ret (results_none rfl _ _ _) rfl ?_
    exact ⟨⟨_, rfl⟩, .inr ⟨_, rfl, HJ3.out⟩⟩
end Go.Proofs.YtbeikfopneeodaaGreat
