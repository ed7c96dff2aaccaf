/- ledger.fits at the example. ledger.Premiums at the example. office.Target at the example. -/
import Derived.Test.YtbeikfopneeodaaGreatMt22
import Derived.Test.YtbeikfopneeodaaGreatMt13
import Derived.Test.YtbeikfopneeodaaGreatMt28
import Derived.Test.YtbeikfopneeodaaGreatMt09
import Derived.Test.YtbeikfopneeodaaGreatMt18
import Derived.Test.YtbeikfopneeodaaGreatMt34
import Derived.Test.YtbeikfopneeodaaGreatMt27
import Derived.Test.YtbeikfopneeodaaGreatMt24
import Derived.Test.YtbeikfopneeodaaGreatMt21
import Derived.Test.YtbeikfopneeodaaGreatMt14
namespace Go.Proofs.YtbeikfopneeodaaGreat
open Go.RowKit
set_option linter.unusedVariables false

set_option maxRecDepth 100000 in
set_option maxHeartbeats 2000000 in
theorem lfits_aw (g b c c' A c1 B c2 S T D K : Nat) (w : World) (h : TrAt w g b c) (ho : OutAt w A B S T D K) : Calls Tryz.prog 136 #[.slice (some ⟨g, 0, none⟩) 1 c', .agg (outC A c1 B c2 S K)] w (BoolPost true w) := by
  have HT0 := Lib.hid h
  have HO0 := Lib.hid ho
  have HSI : Hid _ := Lib.hid (sec_info (T := T) (D := D))
  clear h ho
  unfold outC
  go_enter Tryz.func136, Tryz.ntmps136
  go_upto_region 3 with (fail)
  have hb0 : Below w.heap.size w (w.alloc (.cells #[.slice (some ⟨A, 0, none⟩) 1 c1, .slice (some ⟨B, 0, none⟩) 1 c2, .slice (some ⟨S, 0, none⟩) 1 1, .slice (some ⟨K, 0, none⟩) 1 1] 168)) := (Below.refl _ _).alloc (Nat.le_refl _) _
  have HB := Lib.hid hb0
  obtain ⟨v0, hv⟩ : ∃ W, w.alloc (.cells #[.slice (some ⟨A, 0, none⟩) 1 c1, .slice (some ⟨B, 0, none⟩) 1 c2, .slice (some ⟨S, 0, none⟩) 1 1, .slice (some ⟨K, 0, none⟩) 1 1] 168) = W := ⟨_, rfl⟩
  have ho2 : v0.cell? ⟨w.heap.size, 2, none⟩ = some (.slice (some ⟨S, 0, none⟩) 1 1) := by rw [← hv]; exact (Has.new w _ _).cell 2
  rw [hv] at HB ⊢
  obtain ⟨O, hO⟩ : ∃ Q, w.heap.size = Q := ⟨_, rfl⟩
  rw [hO] at ho2 ⊢
  clear hb0 hv hO
  have HO := Lib.hid (HO0.out.below HB.out)
  go_wp2_with fail
  refine wp_loop_rounds 2 ?_
  rw [rounds_succ]
  go_upto_region 6 with (first
    | (refine wpList_load_has ?_ 234 (.tmp 21) ?_ S ?_ _ (secC T D) _ HO.out.sec Tryz.underlying234 ?_ HSI.out ?_; rfl; rfl; rfl; rfl)
    | (refine wpList_store_has ?_ 234 (.tmp 6) (.tmp 22) ?_ v0.heap.size ?_ (secC T D) ?_ _ _ (Has.new' v0 v0.heap.size zeroS _ rfl) HSI.out ?_ ?_ ?_; rfl; rfl; rfl; rfl; rfl; rfl; intro w2 hh hl))
  have hb2 : Below v0.heap.size v0 w2 := Below.trans (b := (v0.alloc (.cells zeroS 234))) (by (repeat' (first | (with_reducible exact Below.refl _ _) | (with_reducible refine Below.setCell ?_ ?_ _) | (with_reducible refine below_drewN ?_ _) | (with_reducible refine Below.drew ?_) | (with_reducible refine Below.alloc ?_ ?_ _))) <;> (first | omega | (simp <;> omega))) (hl.below (fun k hk => by have hk' : k = v0.heap.size := hk; omega) (by simp))
  have HS := Lib.hid hh
  replace HB := Lib.hid (HB.out.trans (hb2.mono HB.out.size))
  have HT := Lib.hid (HT0.out.later HB.out)
  clear hb2 hh hl ho2 HO
  obtain ⟨G, hG⟩ : ∃ Q, v0.heap.size = Q := ⟨_, rfl⟩
  rw [hG] at HS ⊢
  clear hG
  have s0 : w2.cell? ⟨G, 0, none⟩ = some (.int .i64 1) := HS.out.cell 0
  have g0 : w2.cell? ⟨g, 0, none⟩ = some (.int .i64 1) := HT.out.box.cell 0
  go_quiet (fail)
  obtain ⟨w3, hw3⟩ : ∃ W, w2.drewN nq = W := ⟨_, rfl⟩
  replace HB := Lib.hid (below_drewN HB.out nq)
  replace HS := Lib.hid (HS.out.drewN nq)
  rw [hw3] at HB HS ⊢
  clear hw3 s0 g0 HT
  have s4 : w3.cell? ⟨G, 4, none⟩ = some (.slice none 0 0) := HS.out.cell 4
  go_wp2_with fail
  refine wp_loop_rounds 1 ?_
  rw [rounds_succ]
  go_wp2_with fail
  rw [rounds_succ]
  go_wp2_with fail
  go_ret
  exact ⟨rfl, HB.out⟩
end Go.Proofs.YtbeikfopneeodaaGreat
namespace Go.Proofs.YtbeikfopneeodaaGreat
open Go.RowKit
set_option linter.unusedVariables false

set_option maxRecDepth 100000 in
theorem partbox_info : (Tryz.prog.info? 51).map (·.size) = some 2 := by kernel_rfl

set_option maxRecDepth 100000 in
set_option maxHeartbeats 4000000 in
theorem premiums_aw (g b c c' A c1 B c2 S T D K : Nat) (w : World) (h : TrAt w g b c) (ho : OutAt w A B S T D K) : Calls Tryz.prog 94 #[.slice (some ⟨g, 0, none⟩) 1 c', .agg (outC A c1 B c2 S K)] w (NonePost w 1) := by
  have HT0 := Lib.hid h
  have HO0 := Lib.hid ho
  have HSI : Hid _ := Lib.hid (sec_info (T := T) (D := D))
  have HTI := Lib.hid (awC_info (b := b) (c := c) ty_info rfl)
  have HOI : Hid _ := Lib.hid (out_info (A := A) (c1 := c1) (B := B) (c2 := c2) (S := S) (K := K))
  clear h ho
  unfold outC
  go_enter Tryz.func94, Tryz.ntmps94
  go_upto_region 1 with (fail)
  have hb0 : Below w.heap.size w (w.alloc (.cells #[.slice (some ⟨A, 0, none⟩) 1 c1, .slice (some ⟨B, 0, none⟩) 1 c2, .slice (some ⟨S, 0, none⟩) 1 1, .slice (some ⟨K, 0, none⟩) 1 1] 168)) := (Below.refl _ _).alloc (Nat.le_refl _) _
  have HB := Lib.hid hb0
  obtain ⟨v0, hv⟩ : ∃ W, w.alloc (.cells #[.slice (some ⟨A, 0, none⟩) 1 c1, .slice (some ⟨B, 0, none⟩) 1 c2, .slice (some ⟨S, 0, none⟩) 1 1, .slice (some ⟨K, 0, none⟩) 1 1] 168) = W := ⟨_, rfl⟩
  have hx : Has v0 w.heap.size (outC A c1 B c2 S K) 168 := by rw [← hv]; exact Has.new w _ _
  rw [hv] at HB ⊢
  obtain ⟨O, hO⟩ : ∃ Q, w.heap.size = Q := ⟨_, rfl⟩
  rw [hO] at hx ⊢
  have HX := Lib.hid hx
  clear hb0 hv hO hx
  have CV := Lib.hid (ivalid_aw g b c c' v0 (HT0.out.later HB.out))
  go_wp2_with fail
  refine CV.out.mono ?_
  rintro e w1 ⟨rfl, hb⟩
  replace HB := Lib.hid (HB.out.trans (hb.mono HB.out.size))
  replace HX := Lib.hid (HX.out.below hb HX.out.lt)
  clear hb CV
  have CF := Lib.hid (lfits_aw g b c c' A c1 B c2 S T D K w1 (HT0.out.later HB.out) (HO0.out.below HB.out))
  go_wp2_with (refine wpList_load_has ?_ 168 (.tmp 3) ?_ O ?_ _ (outC A c1 B c2 S K) _ HX.out Tryz.underlying168 ?_ HOI.out ?_; rfl; rfl; rfl; rfl)
  refine CF.out.mono ?_
  rintro e w2 ⟨rfl, hb⟩
  replace HB := Lib.hid (HB.out.trans (hb.mono HB.out.size))
  replace HX := Lib.hid (HX.out.below hb HX.out.lt)
  clear hb CF
  have hmk := mk_int1
  go_upto_region 7 with (fail)
  clear hmk
  have hbk : Below w2.heap.size w2 (w2.alloc (.cells #[.int .i64 0] 3)) := (Below.refl _ _).alloc (Nat.le_refl _) _
  have hk : Has (w2.alloc (.cells #[.int .i64 0] 3)) w2.heap.size #[.int .i64 0] 3 := Has.new _ _ _
  replace HX := Lib.hid (HX.out.below hbk HX.out.lt)
  replace HB := Lib.hid (HB.out.trans (hbk.mono HB.out.size))
  obtain ⟨w3, hw⟩ : ∃ W, w2.alloc (.cells #[.int .i64 0] 3) = W := ⟨_, rfl⟩
  obtain ⟨Q, hQ⟩ : ∃ Q, w2.heap.size = Q := ⟨_, rfl⟩
  rw [hw] at hk HX HB ⊢
  rw [hQ] at hk ⊢
  have HQ := Lib.hid hk
  clear hw hQ hk hbk
  have x2 : w3.cell? ⟨O, 2, none⟩ = some (.slice (some ⟨S, 0, none⟩) 1 1) := HX.out.cell 2
  have HO := Lib.hid (HO0.out.below HB.out)
  go_wp2_with fail
  refine wp_loop_rounds 2 ?_
  rw [rounds_succ]
  go_upto_region 10 with (first
    | (refine wpList_load_has ?_ 234 (.tmp 37) ?_ S ?_ _ (secC T D) _ HO.out.sec Tryz.underlying234 ?_ HSI.out ?_; rfl; rfl; rfl; rfl)
    | (refine wpList_store_has ?_ 234 (.tmp 9) (.tmp 38) ?_ w3.heap.size ?_ (secC T D) ?_ _ _ (Has.new' w3 w3.heap.size zeroS _ rfl) HSI.out ?_ ?_ ?_; rfl; rfl; rfl; rfl; rfl; rfl; intro w4 hh hl))
  have hb2 : Below w3.heap.size w3 w4 := Below.trans (b := (w3.alloc (.cells zeroS 234))) (by (repeat' (first | (with_reducible exact Below.refl _ _) | (with_reducible refine Below.setCell ?_ ?_ _) | (with_reducible refine below_drewN ?_ _) | (with_reducible refine Below.drew ?_) | (with_reducible refine Below.alloc ?_ ?_ _))) <;> (first | omega | (simp <;> omega))) (hl.below (fun k hk => by have hk' : k = w3.heap.size := hk; omega) (by simp))
  have s4 : w4.cell? ⟨w3.heap.size, 4, none⟩ = some (.slice none 0 0) := hh.cell 4
  replace HB := Lib.hid (HB.out.trans (hb2.mono HB.out.size))
  replace HQ := Lib.hid (HQ.out.below hb2 HQ.out.lt)
  clear hb2 hh hl x2 HO HX
  obtain ⟨G, hG⟩ : ∃ Q, w3.heap.size = Q := ⟨_, rfl⟩
  rw [hG] at s4 ⊢
  clear hG
  go_wp2_with fail
  refine wp_loop_rounds 1 ?_
  rw [rounds_succ]
  go_wp2_with fail
  rw [rounds_succ]
  clear s4
  have HT := Lib.hid (HT0.out.later HB.out)
  go_wp2_with fail
  refine wp_loop_rounds 2 ?_
  rw [rounds_succ]
  go_upto_region 22 with (first
    | (refine wpList_load_has ?_ 54 (.tmp 67) ?_ g ?_ _ (awC b c) _ HT.out.box Tryz.underlying54 ?_ HTI.out ?_; rfl; rfl; rfl; rfl)
    | (refine wpList_store_has ?_ 54 (.tmp 14) (.tmp 68) ?_ w4.heap.size ?_ (awC b c) ?_ _ _ (Has.new' w4 w4.heap.size zeroT _ rfl) HTI.out ?_ ?_ ?_; rfl; rfl; rfl; rfl; rfl; rfl; intro w5 hh hl))
  have hb5 : Below w4.heap.size w4 w5 := Below.trans (b := (w4.alloc (.cells zeroT 54))) (by (repeat' (first | (with_reducible exact Below.refl _ _) | (with_reducible refine Below.setCell ?_ ?_ _) | (with_reducible refine below_drewN ?_ _) | (with_reducible refine Below.drew ?_) | (with_reducible refine Below.alloc ?_ ?_ _))) <;> (first | omega | (simp <;> omega))) (hl.below (fun k hk => by have hk' : k = w4.heap.size := hk; omega) (by simp))
  have HG := Lib.hid hh
  replace HB := Lib.hid (HB.out.trans (hb5.mono HB.out.size))
  replace HQ := Lib.hid (HQ.out.below hb5 HQ.out.lt)
  clear hb5 hh hl HT
  obtain ⟨G, hG⟩ : ∃ Q, w4.heap.size = Q := ⟨_, rfl⟩
  rw [hG] at HG ⊢
  clear hG
  have HSV : Hid (∀ V, Below w5.heap.size w5 V → V.cell? ⟨Q, 0, none⟩ = some (.int .i64 0) ∧ V.cell? ⟨G, 20, none⟩ = some (.slice (some ⟨b, 0, none⟩) 1 c)) := Lib.hid fun V hb =>
    ⟨(HQ.out.below hb HQ.out.lt).cell 0, (HG.out.below hb HG.out.lt).cell 20⟩
  have HBB : Hid (Below w5.heap.size w5 w5.drew) := Lib.hid (Below.drew (Below.refl _ _))
  have HR : Hid True := Lib.hid trivial
  go_region_held3 (fun V => V.cell? ⟨Q, 0, none⟩ = some (.int .i64 0) ∧ V.cell? ⟨G, 20, none⟩ = some (.slice (some ⟨b, 0, none⟩) 1 c)) (exact HSV.out _ HBB.out) (first
    | (go_at_call 137; refine (cdivide_one 0 b c _ (by omega) (by omega) (HT0.out.later (HB.out.trans (HBB.out.mono HB.out.size))).part).mono ?_; rintro e w6 ⟨Z, rfl, hz0, hz1, hzl, hzb, hb⟩; replace HBB : Hid (Below w5.heap.size w5 w6) := Lib.hid (HBB.out.trans (hb.mono HBB.out.size)); replace HR := Lib.hid (And.intro hz0 (And.intro hz1 hzl)); clear hz0 hz1 hzl hzb hb))
  have HZ : Hid (w6.cell? ⟨Z, 0, none⟩ = some (.int .i64 0) ∧ w6.cell? ⟨Z, 1, none⟩ = some (.int .i64 0) ∧ Z < w6.heap.size) := Lib.hid HR.out
  replace HB := Lib.hid (HB.out.trans (HBB.out.mono HB.out.size))
  replace HG := Lib.hid (HG.out.below HBB.out HG.out.lt)
  clear HBB HSV HR HQ
  have t20 : w6.cell? ⟨G, 20, none⟩ = some (.slice (some ⟨b, 0, none⟩) 1 c) := HG.out.cell 20
  have bb : w6.cell? ⟨b, 0, none⟩ = some (.int .i64 2) ∧ w6.cell? ⟨b, 1, none⟩ = some (.int .i64 1000000) ∧ b < w6.heap.size := by
    obtain ⟨b', o', e', had, hc0, hc1⟩ := Pairs.get (HT0.out.later HB.out).part (show 0 < 1 by omega)
    simp only [Option.some.injEq, Addr.mk.injEq, and_true] at e'
    obtain ⟨rfl, rfl⟩ := e'
    exact ⟨by simpa using hc0, by simpa using hc1, had⟩
  obtain ⟨bb0, bb1, bbl⟩ := bb
  go_wp2_with fail
  refine wp_loop_rounds 2 ?_
  rw [rounds_succ]
  go_upto_region 28 with (fail)
  have hb7 : Below w6.heap.size w6 (w6.alloc (.cells #[.int .i64 2, .int .i64 1000000] 51)) := (Below.refl _ _).alloc (Nat.le_refl _) _
  have hp7 : Has (w6.alloc (.cells #[.int .i64 2, .int .i64 1000000] 51)) w6.heap.size #[.int .i64 2, .int .i64 1000000] 51 := Has.new _ _ _
  replace HG := Lib.hid (HG.out.below hb7 HG.out.lt)
  replace HB := Lib.hid (HB.out.trans (hb7.mono HB.out.size))
  have z1 := (hb7.cell (p := ⟨Z, 1, none⟩) HZ.out.2.2).trans HZ.out.2.1
  obtain ⟨w7, hw⟩ : ∃ W, w6.alloc (.cells #[.int .i64 2, .int .i64 1000000] 51) = W := ⟨_, rfl⟩
  obtain ⟨H, hH⟩ : ∃ Q, w6.heap.size = Q := ⟨_, rfl⟩
  rw [hw] at hp7 z1 HG HB ⊢
  rw [hH] at hp7 ⊢
  have h0 : w7.cell? ⟨H, 0, none⟩ = some (.int .i64 2) := hp7.cell 0
  have g0 : w7.cell? ⟨G, 0, none⟩ = some (.int .i64 1) := HG.out.cell 0
  have hl : H < w7.heap.size := hp7.lt
  have gl : G < w7.heap.size := HG.out.lt
  have hs7 : w.heap.size ≤ w7.heap.size := HB.out.size
  obtain ⟨i0, hi0, hz0, hz1, hz2⟩ := info_parts entry_all
  have HI := Lib.hid hi0
  have HZ0 := Lib.hid hz0
  have HZ1 := Lib.hid hz1
  have HZ2 := Lib.hid hz2
  clear hi0 hz0 hz1 hz2 hb7 hw hH hp7 t20 bb0 bb1 bbl HZ
  have hw0 : IntKind.i64.wrap (-0) = 0 := by decide
  have hw1 : IntKind.i64.wrap (0 + 1) = 1 := by decide
  have hw2 : IntKind.i64.wrap 0 = 0 := by decide
  have hw3 : IntKind.i64.wrap 1 = 1 := by decide
  go_region_law (first
    | (refine step_append_lies _ (by rfl) _ _ _ (by rfl) w.heap.size 99 i0 _ 5 40 Tryz.underlying137 HI.out HZ0.out HZ1.out HZ2.out rfl (by omega) (.slice none 0 0) 0 [] (by rfl) (own_nil _ _ _ _) ⟨w7.heap.size, 0, none⟩ 1 1 [.int .i64 3, .int .i64 1, .int .i64 2, .int .i64 0, .int .i64 0] (by rfl) (by rfl) (World.news_of_block (cs := #[.int .i64 3, .int .i64 1, .int .i64 2, .int .i64 0, .int .i64 0]) (t := 99) (fr := (0, 0)) (heap_alloc_new w7 _)) (by simp [Value.oneCell']) (by omega) (by unfold maxLen; omega) (by omega) (by simp; omega) (w7.heap.size + 1) (by simp) ?_; intro gg cp w8 hown hgrow hat hltg))
  all_goals
    have hb8 : Below w.heap.size w w8 := ((HB.out.alloc hs7 _).drew).grown hgrow (by simp; omega) (fun q hq => by cases hq)
    replace HB := Lib.hid hb8
    have ho := Own.of_row (F := fun j => (enN 4).enc.getD j undef) hown (fun j hj => by
      have hj : j < 5 := hj
      match j, hj with
      | 0, _ | 1, _ | 2, _ | 3, _ | 4, _ => rfl
      | n + 5, h => exact absurd h (by omega))
    have HEA : Hid (EnAt w8 gg [4]) := Lib.hid ⟨fun j hj => (ho.cell hj).trans (by
      have hj : j < 5 := hj
      match j, hj with
      | 0, _ | 1, _ | 2, _ | 3, _ | 4, _ => rfl
      | n + 5, h => exact absurd h (by omega)), ho.lt⟩
    have CC := Lib.hid (collect_one gg cp w8 HEA.out)
    clear hb8 ho hown hgrow hat hltg h0 g0 z1 hl gl hs7 hw0 hw1 hw2 hw3 HG
    go_wp2_with fail
    rw [rounds_succ]
    go_wp2_with fail
    rw [rounds_succ]
    go_wp2_with fail
    refine CC.out.mono ?_
    rintro e w9 ⟨Y, rfl, hy, hyb, hb⟩
    have HZ : Hid (NonePost w 1 (.returned (.tuple #[.slice (some ⟨Y, 0, none⟩) 0 1, .int .i64 0])) w9) := Lib.hid ⟨Y, rfl, hy, by have := HB.out.size; omega, HB.out.trans (hb.mono HB.out.size)⟩
    clear hy hyb hb CC
    go_wp2_with fail
    go_ret2
    exact HZ.out
end Go.Proofs.YtbeikfopneeodaaGreat
namespace Go.Proofs.YtbeikfopneeodaaGreat
open Go.RowKit
set_option linter.unusedVariables false

set_option maxRecDepth 100000 in
theorem run_append_zero (X Y cx cy : Nat) (hc : 4 ≤ cx) (ty : TypeId) (w : World) : (Builtin.append_ #[137, 137] ty #[.slice (some ⟨X, 0, none⟩) 4 cx, .slice (some ⟨Y, 0, none⟩) 0 cy]).run Tryz.prog w = .ok (.slice (some ⟨X, 0, none⟩) 4 cx) w := by
  obtain ⟨i, hi, hs⟩ : ∃ i, Tryz.prog.info? 99 = some i ∧ i.size = 5 := by
    have h : (Tryz.prog.info? 99).map (·.size) = some 5 := by kernel_rfl
    cases e : Tryz.prog.info? 99 with
    | none => rw [e] at h; cases h
    | some i => rw [e] at h; exact ⟨i, rfl, by injection h⟩
  unfold Builtin.append_
  have hu := Tryz.underlying137
  simp [run_underlying hu, hi, hs, hc, Result.andThen, sizeOf, typeInfo, Builtin.lenOf, Builtin.firstCells, storeCells, loadCells, loadCellsFrom]

/-- an office with a loss -/
def offL (g c l cl : Nat) (led out : Value) : Array Value := #[.int .i64 0, .slice (some ⟨g, 0, none⟩) 1 c, .slice none 0 0, .slice none 0 0, .slice (some ⟨l, 0, none⟩) 1 cl, .slice none 0 0, .int .i64 0, led, out]
theorem offl_info (g c l cl : Nat) (led out : Value) : (Tryz.prog.info? 67).map (·.size) = some (offL g c l cl led out).size := off_info0
theorem TrAt.blt {w : World} {g b c : Nat} (h : TrAt w g b c) : b < w.heap.size := by
  obtain ⟨ad, e, hlt, _⟩ := part_cells h.part (by omega)
  injection e with e
  subst e
  exact hlt

set_option maxRecDepth 100000 in
set_option maxHeartbeats 4000000 in
theorem target_aw (g b c c' l cl O : Nat) (w : World) (h : TrAt w g b c) (hl : LossAt w l) : Calls Tryz.prog 65 #[.agg (offL g c' l cl (.slice none 0 0) (.slice (some ⟨O, 0, none⟩) 16 16))] w (CollPost w) := by
  have HT0 := Lib.hid h
  have HL0 := Lib.hid hl
  clear h hl
  unfold offL
  go_enter Tryz.func65, Tryz.ntmps65
  go_upto_region 1 with (fail)
  have hb0 : Below w.heap.size w (w.alloc (.cells #[.int .i64 0, .slice (some ⟨g, 0, none⟩) 1 c', .slice none 0 0, .slice none 0 0, .slice (some ⟨l, 0, none⟩) 1 cl, .slice none 0 0, .int .i64 0, .slice none 0 0, .slice (some ⟨O, 0, none⟩) 16 16] 67)) := (Below.refl _ _).alloc (Nat.le_refl _) _
  have hp : Has (w.alloc (.cells #[.int .i64 0, .slice (some ⟨g, 0, none⟩) 1 c', .slice none 0 0, .slice none 0 0, .slice (some ⟨l, 0, none⟩) 1 cl, .slice none 0 0, .int .i64 0, .slice none 0 0, .slice (some ⟨O, 0, none⟩) 16 16] 67)) w.heap.size (offL g c' l cl (.slice none 0 0) (.slice (some ⟨O, 0, none⟩) 16 16)) 67 := Has.new _ _ _
  have HB := Lib.hid hb0
  obtain ⟨v0, hv⟩ : ∃ W, w.alloc (.cells #[.int .i64 0, .slice (some ⟨g, 0, none⟩) 1 c', .slice none 0 0, .slice none 0 0, .slice (some ⟨l, 0, none⟩) 1 cl, .slice none 0 0, .int .i64 0, .slice none 0 0, .slice (some ⟨O, 0, none⟩) 16 16] 67) = W := ⟨_, rfl⟩
  rw [hv] at hp HB ⊢
  obtain ⟨P, hP⟩ : ∃ Q, w.heap.size = Q := ⟨_, rfl⟩
  have HN : Hid (w.heap.size = P) := Lib.hid hP
  rw [hP] at hp ⊢
  have HP := Lib.hid hp
  clear hv hp hb0 hP
  have p0 : v0.cell? ⟨P, 0, none⟩ = some (.int .i64 0) := HP.out.cell 0
  have p1 : v0.cell? ⟨P, 1, none⟩ = some (.slice (some ⟨g, 0, none⟩) 1 c') := HP.out.cell 1
  have p2 : v0.cell? ⟨P, 2, none⟩ = some (.slice none 0 0) := HP.out.cell 2
  have p3 : v0.cell? ⟨P, 3, none⟩ = some (.slice none 0 0) := HP.out.cell 3
  have p4 : v0.cell? ⟨P, 4, none⟩ = some (.slice (some ⟨l, 0, none⟩) 1 cl) := HP.out.cell 4
  have CE : Hid (Calls Tryz.prog 91 #[.agg #[.int .i64 0, .slice (some ⟨g, 0, none⟩) 1 c', .slice none 0 0, .slice none 0 0], .slice (some ⟨l, 0, none⟩) 1 cl] v0 _) := Lib.hid (evaluate_aw g b c c' l cl v0 (HT0.out.later HB.out) (HL0.out.below HB.out HL0.out.lt) ⟨(HT0.out.later HB.out).box.lt, (HT0.out.later HB.out).blt, (HL0.out.below HB.out HL0.out.lt).lt⟩)
  go_wp2_with fail
  refine CE.out.mono ?_
  rintro e w1 ⟨A, c1, B, c2, S, T, D, K, rfl, ho, hn, hb⟩
  have HO := Lib.hid ho
  replace HB := Lib.hid (HB.out.trans (hb.mono HB.out.size))
  replace HP := Lib.hid (HP.out.below hb HP.out.lt)
  clear ho hn hb CE p0 p1 p2 p3 p4
  have HOI : Hid _ := Lib.hid (out_info (A := A) (c1 := c1) (B := B) (c2 := c2) (S := S) (K := K))
  go_upto_region 2 with (refine wpList_store_has ?_ 168 (.tmp 4) (.tmp 18) ?_ w1.heap.size ?_ (outC A c1 B c2 S K) ?_ _ _ (Has.new' w1 w1.heap.size #[.slice none 0 0, .slice none 0 0, .slice none 0 0, .slice none 0 0] _ rfl) HOI.out ?_ ?_ ?_; rfl; rfl; rfl; rfl; rfl; rfl; intro w2 hh hl)
  have hb2 : Below w1.heap.size w1 w2 := ((Below.refl _ _).alloc (Nat.le_refl _) _).trans (hl.below (fun k (hk : k = w1.heap.size) => by omega) (by simp))
  have HX := Lib.hid hh
  replace HB := Lib.hid (HB.out.trans (hb2.mono HB.out.size))
  replace HP := Lib.hid (HP.out.below hb2 HP.out.lt)
  replace HO := Lib.hid (HO.out.below hb2)
  clear hh hl hb2
  obtain ⟨X, hX⟩ : ∃ Q, w1.heap.size = Q := ⟨_, rfl⟩
  rw [hX] at HX ⊢
  clear hX
  have p0 : w2.cell? ⟨P, 0, none⟩ = some (.int .i64 0) := HP.out.cell 0
  have p1 : w2.cell? ⟨P, 1, none⟩ = some (.slice (some ⟨g, 0, none⟩) 1 c') := HP.out.cell 1
  have p2 : w2.cell? ⟨P, 2, none⟩ = some (.slice none 0 0) := HP.out.cell 2
  have p3 : w2.cell? ⟨P, 3, none⟩ = some (.slice none 0 0) := HP.out.cell 3
  have p4 : w2.cell? ⟨P, 4, none⟩ = some (.slice (some ⟨l, 0, none⟩) 1 cl) := HP.out.cell 4
  have CD : Hid (Calls Tryz.prog 92 #[.agg #[.int .i64 0, .slice (some ⟨g, 0, none⟩) 1 c', .slice none 0 0, .slice none 0 0], .slice (some ⟨l, 0, none⟩) 1 cl, .agg (outC A c1 B c2 S K)] w2 _) := Lib.hid (cDivide_aw g b c c' l cl A c1 B c2 S T D K w2 (HT0.out.later HB.out) (HL0.out.below HB.out HL0.out.lt) HO.out)
  go_wp2_with (refine wpList_load_has ?_ 168 (.tmp 4) ?_ X ?_ _ (outC A c1 B c2 S K) _ HX.out Tryz.underlying168 ?_ HOI.out ?_; rfl; rfl; rfl; rfl)
  refine CD.out.mono ?_
  rintro e w3 ⟨Y, cy, rfl, hy, hyl, hyb, hb⟩
  replace HB := Lib.hid (HB.out.trans (hb.mono HB.out.size))
  replace HP := Lib.hid (HP.out.below hb HP.out.lt)
  replace HX := Lib.hid (HX.out.below hb HX.out.lt)
  replace HO := Lib.hid (HO.out.below hb)
  have HY : Hid (ShAt w3 Y) := Lib.hid ⟨hy, hyl⟩
  clear hy hyl hyb hb CD p0 p1 p2 p3 p4
  have CN := Lib.hid (entries_aw Y cy w3 HY.out)
  go_wp2_with fail
  refine CN.out.mono ?_
  rintro e w4 ⟨Z, cz, hcz, rfl, hz, hzb, hb⟩
  replace HB := Lib.hid (HB.out.trans (hb.mono HB.out.size))
  replace HP := Lib.hid (HP.out.below hb HP.out.lt)
  replace HX := Lib.hid (HX.out.below hb HX.out.lt)
  replace HO := Lib.hid (HO.out.below hb)
  have HZ := Lib.hid hz
  have HCZ := Lib.hid hcz
  clear hz hzb hb hcz CN HY
  have p1 : w4.cell? ⟨P, 1, none⟩ = some (.slice (some ⟨g, 0, none⟩) 1 c') := HP.out.cell 1
  have CM := Lib.hid (premiums_aw g b c c' A c1 B c2 S T D K w4 (HT0.out.later HB.out) HO.out)
  go_wp2_with (refine wpList_load_has ?_ 168 (.tmp 4) ?_ X ?_ _ (outC A c1 B c2 S K) _ HX.out Tryz.underlying168 ?_ HOI.out ?_; rfl; rfl; rfl; rfl)
  refine CM.out.mono ?_
  rintro e w5 ⟨Y2, rfl, hy2, hyb, hb⟩
  replace HB := Lib.hid (HB.out.trans (hb.mono HB.out.size))
  replace HP := Lib.hid (HP.out.below hb HP.out.lt)
  replace HZ := Lib.hid (HZ.out.below hb HZ.out.2)
  clear hy2 hyb hb CM p1 HX HO
  have happ := run_append_zero Z Y2 cz 1 HCZ.out
  have CC := Lib.hid (collect_four Z cz w5 HZ.out)
  go_wp2_with fail
  refine CC.out.mono ?_
  rintro e w6 ⟨Q, cq, hcq, rfl, hq, hqb, hb⟩
  have HE : Hid (CollPost w (.returned (.tuple #[.slice (some ⟨Q, 0, none⟩) 4 cq, .int .i64 0])) w6) := Lib.hid ⟨Q, cq, hcq, rfl, hq, by have := HB.out.size; omega, HB.out.trans (hb.mono HB.out.size)⟩
  replace HP := Lib.hid (HP.out.below hb HP.out.lt)
  clear hq hqb hb hcq CC happ HZ HCZ
  have p5 : w6.cell? ⟨P, 5, none⟩ = some (.slice none 0 0) := HP.out.cell 5
  go_wp2_with fail
  refine wp_loop_rounds 1 ?_
  rw [rounds_succ]
  go_wp2_with fail
  go_ret2
  exact HE.out
end Go.Proofs.YtbeikfopneeodaaGreat
