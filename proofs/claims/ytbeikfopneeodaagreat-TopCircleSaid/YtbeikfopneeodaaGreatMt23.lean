/- cession.divide at the example. -/
import Derived.Test.YtbeikfopneeodaaGreatMt22
namespace Go.Proofs.YtbeikfopneeodaaGreat
open Go.RowKit
set_option linter.unusedVariables false

theorem row_below {w w' : World} {base n s : Nat} {e : TypeId} {v : Value} {xs : List Value} (h : w.ownsRow base e s v n xs) (hb : Below w.heap.size w w') : w'.ownsRow base e s v n xs := by
  obtain ⟨hl, h0 | ⟨g, cp, cur, hv, hg, hh, rest⟩⟩ := h
  · exact ⟨hl, .inl h0⟩
  · exact ⟨hl, .inr ⟨g, cp, cur, hv, hg, (hb.block g (Array.getElem?_eq_some_iff.mp hh).1).trans hh, rest⟩⟩
theorem World.ownsRow.mono_base {w : World} {base base' n s : Nat} {e : TypeId} {v : Value} {xs : List Value} (h : w.ownsRow base e s v n xs) (hb : base' ≤ base) : w.ownsRow base' e s v n xs := by
  obtain ⟨hl, h0 | ⟨g, cp, cur, hv, hg, rest⟩⟩ := h
  · exact ⟨hl, .inl h0⟩
  · exact ⟨hl, .inr ⟨g, cp, cur, hv, Nat.le_trans hb hg, rest⟩⟩
theorem two_fair1 {f : Nat → Int} (h : Sp.Fair 30 100 (two 50 50) 2 f) : f 0 = 15 ∧ f 1 = 15 := by
  have hs : Ex.psum (Sp.q 30 100 (two 50 50)) 2 = 30 := by decide
  exact ⟨by rw [h.exact hs 0 (by omega)]; decide, by rw [h.exact hs 1 (by omega)]; decide⟩
theorem two_fair2 {f : Nat → Int} (h : Sp.Fair 15 50 (two 0 50) 2 f) : f 0 = 0 ∧ f 1 = 15 := by
  have hs : Ex.psum (Sp.q 15 50 (two 0 50)) 2 = 15 := by decide
  exact ⟨by rw [h.exact hs 0 (by omega)]; decide, by rw [h.exact hs 1 (by omega)]; decide⟩

set_option maxRecDepth 100000 in
set_option maxHeartbeats 4000000 in
theorem cdiv_aw (g b c c' A c1 B c2 S T D K : Nat) (w : World) (h : TrAt w g b c) (ho : OutAt w A B S T D K) : Calls Tryz.prog 133 #[.slice none 0 0, .agg (awP g c'), .int .i64 7, .int .i64 0, .agg (outC A c1 B c2 S K)] w
    fun e w' => ∃ X cap, e = .returned (.tuple #[.slice (some ⟨X, 0, none⟩) 2 cap, .int .i64 0]) ∧ w'.ownsRow w.heap.size 230 5 (.slice (some ⟨X, 0, none⟩) 2 cap) 2 ((shC 7 0 0 50 15).toList ++ (shC 7 1 2 50 15).toList) ∧ Below w.heap.size w w' := by
  have HT := Lib.hid h
  have HO := Lib.hid ho
  have HT0 := Lib.hid h
  have HO0 := Lib.hid ho
  have HSI : Hid _ := Lib.hid (sec_info (T := T) (D := D))
  have HTI := Lib.hid (awC_info (b := b) (c := c) ty_info rfl)
  have al := ho.lt.1
  have sl := ho.sec.lt
  have gl := h.box.lt
  have kl := ho.kept.lt
  have k0 : w.cell? ⟨K, 0, none⟩ = some (.int .i64 50) := ho.kept.cell 0
  clear h ho
  unfold awP outC
  go_enter Tryz.func133, Tryz.ntmps133
  go_upto_region 2 with (fail)
  have HP1 : Hid (Has _ w.heap.size #[.int .i64 0, .slice (some ⟨g, 0, none⟩) 1 c', .slice none 0 0, .slice none 0 0] 59) := Lib.hid (((Has.new w #[.int .i64 0, .slice (some ⟨g, 0, none⟩) 1 c', .slice none 0 0, .slice none 0 0] 59).alloc (.cells #[.slice (some ⟨A, 0, none⟩) 1 c1, .slice (some ⟨B, 0, none⟩) 1 c2, .slice (some ⟨S, 0, none⟩) 1 1, .slice (some ⟨K, 0, none⟩) 1 1] 168)).alloc (.cells #[.int .i64 50] 3))
  have HO1 : Hid (Has ((((w.alloc (.cells #[.int .i64 0, .slice (some ⟨g, 0, none⟩) 1 c', .slice none 0 0, .slice none 0 0] 59)).alloc (.cells #[.slice (some ⟨A, 0, none⟩) 1 c1, .slice (some ⟨B, 0, none⟩) 1 c2, .slice (some ⟨S, 0, none⟩) 1 1, .slice (some ⟨K, 0, none⟩) 1 1] 168)).alloc (.cells #[.int .i64 50] 3))) (w.heap.size + 1) #[.slice (some ⟨A, 0, none⟩) 1 c1, .slice (some ⟨B, 0, none⟩) 1 c2, .slice (some ⟨S, 0, none⟩) 1 1, .slice (some ⟨K, 0, none⟩) 1 1] 168) := Lib.hid ((Has.new' _ _ _ _ (by simp)).alloc _)
  have HW1 : Hid (Has ((((w.alloc (.cells #[.int .i64 0, .slice (some ⟨g, 0, none⟩) 1 c', .slice none 0 0, .slice none 0 0] 59)).alloc (.cells #[.slice (some ⟨A, 0, none⟩) 1 c1, .slice (some ⟨B, 0, none⟩) 1 c2, .slice (some ⟨S, 0, none⟩) 1 1, .slice (some ⟨K, 0, none⟩) 1 1] 168)).alloc (.cells #[.int .i64 50] 3))) (w.heap.size + 1 + 1) #[.int .i64 50] 3) := Lib.hid (Has.new' _ _ _ _ (by simp))
  have HB : Hid (Below w.heap.size w ((((w.alloc (.cells #[.int .i64 0, .slice (some ⟨g, 0, none⟩) 1 c', .slice none 0 0, .slice none 0 0] 59)).alloc (.cells #[.slice (some ⟨A, 0, none⟩) 1 c1, .slice (some ⟨B, 0, none⟩) 1 c2, .slice (some ⟨S, 0, none⟩) 1 1, .slice (some ⟨K, 0, none⟩) 1 1] 168)).alloc (.cells #[.int .i64 50] 3)))) := Lib.hid (by (repeat' (first | (with_reducible exact Below.refl _ _) | (with_reducible refine Below.setCell ?_ ?_ _) | (with_reducible refine below_drewN ?_ _) | (with_reducible refine Below.drew ?_) | (with_reducible refine Below.alloc ?_ ?_ _))) <;> (first | omega | (simp <;> omega)))
  obtain ⟨w1, hw1⟩ : ∃ W, (((w.alloc (.cells #[.int .i64 0, .slice (some ⟨g, 0, none⟩) 1 c', .slice none 0 0, .slice none 0 0] 59)).alloc (.cells #[.slice (some ⟨A, 0, none⟩) 1 c1, .slice (some ⟨B, 0, none⟩) 1 c2, .slice (some ⟨S, 0, none⟩) 1 1, .slice (some ⟨K, 0, none⟩) 1 1] 168)).alloc (.cells #[.int .i64 50] 3)) = W := ⟨_, rfl⟩
  rw [hw1] at HP1 HO1 HW1 HB ⊢
  clear hw1
  have HN : Hid (A < w.heap.size ∧ B < w.heap.size ∧ S < w.heap.size ∧ T < w.heap.size ∧ D < w.heap.size ∧ K < w.heap.size ∧ g < w.heap.size) := Lib.hid ⟨al, HO.out.lt.2, sl, HO.out.sub.lt, HO.out.ced.lt, kl, gl⟩
  replace HT := Lib.hid (HT.out.later HB.out)
  replace HO := Lib.hid (HO.out.below HB.out)
  obtain ⟨P, hP⟩ : ∃ Q, w.heap.size = Q := ⟨_, rfl⟩
  obtain ⟨O, hO⟩ : ∃ Q, w.heap.size + 1 = Q := ⟨_, rfl⟩
  obtain ⟨W0, hW0⟩ : ∃ Q, w.heap.size + 1 + 1 = Q := ⟨_, rfl⟩
  have HPO : Hid (w.heap.size = P ∧ O = P + 1 ∧ W0 = P + 2) := Lib.hid (by omega)
  rw [hW0] at HW1 ⊢
  rw [hO] at HO1 ⊢
  rw [hP] at HP1 HN ⊢
  have o2 : w1.cell? ⟨O, 2, none⟩ = some (.slice (some ⟨S, 0, none⟩) 1 1) := HO1.out.cell 2
  clear al sl gl kl k0 hP hO hW0
  go_wp2_with fail
  refine wp_loop_rounds 2 ?_
  rw [rounds_succ]
  go_upto_region 5 with (first
    | (refine wpList_load_has ?_ 234 (.tmp 36) ?_ S ?_ _ (secC T D) _ HO.out.sec Tryz.underlying234 ?_ HSI.out ?_; rfl; rfl; rfl; rfl)
    | (refine wpList_store_has ?_ 234 (.tmp 14) (.tmp 37) ?_ w1.heap.size ?_ (secC T D) ?_ _ _ (Has.new' w1 w1.heap.size zeroS _ rfl) HSI.out ?_ ?_ ?_; rfl; rfl; rfl; rfl; rfl; rfl; intro w2 hh hl))
  have hb2 : Below w1.heap.size w1 w2 := Below.trans (b := (w1.alloc (.cells zeroS 234))) (by (repeat' (first | (with_reducible exact Below.refl _ _) | (with_reducible refine Below.setCell ?_ ?_ _) | (with_reducible refine below_drewN ?_ _) | (with_reducible refine Below.drew ?_) | (with_reducible refine Below.alloc ?_ ?_ _))) <;> (first | omega | (simp <;> omega))) (hl.below (fun k hk => by have hk' : k = w1.heap.size := hk; omega) (by simp))
  have s2 : w2.cell? ⟨w1.heap.size, 2, none⟩ = some (.slice (some ⟨D, 0, none⟩) 1 1) := hh.cell 2
  have gl2 := hh.lt
  replace HB := Lib.hid (HB.out.trans (hb2.mono HB.out.size))
  replace HP1 := Lib.hid (HP1.out.below hb2 HP1.out.lt)
  replace HO1 := Lib.hid (HO1.out.below hb2 HO1.out.lt)
  replace HW1 := Lib.hid (HW1.out.below hb2 HW1.out.lt)
  replace HT := Lib.hid (HT.out.later hb2)
  replace HO := Lib.hid (HO.out.below hb2)
  clear o2 hb2 hh hl
  obtain ⟨G8, hG⟩ : ∃ Q, w1.heap.size = Q := ⟨_, rfl⟩
  rw [hG] at s2 gl2 ⊢
  clear hG
  have d0 : w2.cell? ⟨D, 0, none⟩ = some (.int .i64 50) := HO.out.ced.cell 0
  obtain ⟨i0, hi0, hz0, hz1, hz2⟩ := info_parts i64_info
  have HI := Lib.hid hi0
  have HZ0 := Lib.hid hz0
  have HZ1 := Lib.hid hz1
  have HZ2 := Lib.hid hz2
  clear hi0 hz0 hz1 hz2
  have HW3 := Lib.hid (Has.own1 (base := W0) (HW1.out.alloc (.cells #[.int .i64 50] 3)) (Nat.le_refl _))
  have hW0l := HW1.out.lt
  go_upto_region 6 with ((at_builtin; refine wpList_append_lies _ rfl _ _ 22 rfl W0 3 i0 _ 1 8 Tryz.underlying22 HI.out HZ0.out HZ1.out HZ2.out rfl (by omega) _ 1 [.int .i64 50] rfl HW3.out ⟨w2.heap.size, 0, none⟩ 1 1 [.int .i64 50] rfl rfl (World.news_of_block (cs := #[.int .i64 50]) (fr := (0, 0)) (heap_alloc_new w2 _)) (by simp [Value.oneCell']) (by omega) (by unfold maxLen; omega) (by omega) (by simp; omega) (w2.heap.size + 1) (by simp) ?_; intro gg cp w9 hown hgrow hat hlt; clear hat hlt))
  have hlv : Leaves (fun k => k = W0) w2 w9 := ((Leaves.refl _ w2).alloc _).grown hgrow (fun k hk => .inl (Option.some.inj hk).symm)
  have hOw := Own.of_row (F := fun _ => .int .i64 50) hown (fun j hj => by
    have hj : j < 2 := by omega
    match j, hj with
    | 0, _ | 1, _ => rfl)
  have hpo := HPO.out
  replace HB : Hid (Below w.heap.size w w9) := Lib.hid (HB.out.trans (hlv.below (fun k hk => by have hk' : k = W0 := hk; omega) HB.out.size))
  replace HP1 := Lib.hid (HP1.out.leaves hlv (by show ¬ P = W0; omega))
  replace HO1 := Lib.hid (HO1.out.leaves hlv (by show ¬ O = W0; omega))
  have HWT : Hid (Own w9 W0 gg 2 cp 1 3 (fun _ => .int .i64 50)) := Lib.hid hOw
  replace HT := Lib.hid (HT0.out.later HB.out)
  replace HO := Lib.hid (HO0.out.below HB.out)
  clear hlv hOw hown hgrow hpo HW1 HW3 hW0l s2 gl2 d0 HSI
  go_wp2_with fail
  rw [rounds_succ]
  have o1 : w9.cell? ⟨O, 1, none⟩ = some (.slice (some ⟨B, 0, none⟩) 1 c2) := HO1.out.cell 1
  have b0 : w9.cell? ⟨B, 0, none⟩ = some (.int .i64 30) := HO.out.pd
  have hgl := HWT.out.lt
  have C1 := Lib.hid (parts_two 30 50 50 gg cp w9 (by omega) (by omega) (by omega) (by omega) (by omega) (by omega) (by omega) (HWT.out.cell (by omega)) (HWT.out.cell (by omega)) hgl)
  go_wp2_with fail
  refine C1.out.mono ?_
  rintro e w3 ⟨Y, f, rfl, hr, hle, hf, hb⟩
  obtain ⟨f0, f1⟩ := two_fair1 (by simpa using hf)
  have HY : Hid (w3.cell? ⟨Y, 0, none⟩ = some (.int .i64 15) ∧ w3.cell? ⟨Y, 1, none⟩ = some (.int .i64 15) ∧ Y < w3.heap.size) := Lib.hid ⟨by rw [hr.cell 0 (by omega), f0], by rw [hr.cell 1 (by omega), f1], hr.lt⟩
  replace HB := Lib.hid (HB.out.trans (hb.mono HB.out.size))
  replace HP1 := Lib.hid (HP1.out.below hb HP1.out.lt)
  replace HO1 := Lib.hid (HO1.out.below hb HO1.out.lt)
  replace HWT := Lib.hid (HWT.out.below hb HWT.out.lt)
  replace HT := Lib.hid (HT0.out.later HB.out)
  replace HO := Lib.hid (HO0.out.below HB.out)
  clear o1 b0 hgl C1 hr hle hf hb f0 f1
  go_wp2_with fail
  have HSV : Hid (∀ V, Below w3.heap.size w3 V → V.cell? ⟨O, 3, none⟩ = some (.slice (some ⟨K, 0, none⟩) 1 1) ∧ V.cell? ⟨K, 0, none⟩ = some (.int .i64 50) ∧ V.cell? ⟨Y, 0, none⟩ = some (.int .i64 15)) := Lib.hid fun V hb =>
    ⟨(HO1.out.below hb HO1.out.lt).cell 3, (HO.out.kept.below hb HO.out.kept.lt).cell 0, (hb.cell (p := ⟨Y, 0, none⟩) HY.out.2.2).trans HY.out.1⟩
  have HBB : Hid (Below w3.heap.size w3 w3.drew) := Lib.hid (Below.drew (Below.refl _ _))
  have HR : Hid True := Lib.hid trivial
  go_region_held3 (fun V => V.cell? ⟨O, 3, none⟩ = some (.slice (some ⟨K, 0, none⟩) 1 1) ∧ V.cell? ⟨K, 0, none⟩ = some (.int .i64 50) ∧ V.cell? ⟨Y, 0, none⟩ = some (.int .i64 15)) (exact HSV.out _ HBB.out) (first
    | (go_at_call 175; refine (cadd_any w3.heap.size 0 (.slice none 0 0) [] 7 0 0 50 15 _ (by omega) (by decide) (own_nil _ _ _ _) (.inl rfl) HBB.out.size).mono ?_; rintro e w4 ⟨X1, x1, rfl, hr, hl⟩; replace HBB : Hid (Below w3.heap.size w3 w4) := Lib.hid (HBB.out.trans (hl.below (fun k hk => by cases hk) HBB.out.size)); replace HR := Lib.hid hr; clear hr hl))
  have hs3 := HB.out.size
  have hXG : w3.heap.size ≤ X1 ∧ X1 < w4.heap.size := And.symm (own_lt (k := X1) HR.out rfl)
  have HX1 : Hid (w4.ownsRow w3.heap.size 230 5 (.slice (some ⟨X1, 0, none⟩) 1 x1) 1 [.int .i64 7, .int .i64 0, .int .i64 0, .int .i64 50, .int .i64 15]) := Lib.hid HR.out
  have HXb : Hid (w.heap.size ≤ w3.heap.size) := Lib.hid hs3
  replace HB := Lib.hid (HB.out.trans (HBB.out.mono HB.out.size))
  replace HP1 := Lib.hid (HP1.out.below HBB.out HP1.out.lt)
  replace HO1 := Lib.hid (HO1.out.below HBB.out HO1.out.lt)
  replace HWT := Lib.hid (HWT.out.below HBB.out HWT.out.lt)
  replace HY : Hid (w4.cell? ⟨Y, 0, none⟩ = some (.int .i64 15) ∧ w4.cell? ⟨Y, 1, none⟩ = some (.int .i64 15) ∧ Y < w4.heap.size) := Lib.hid ⟨(HBB.out.cell (p := ⟨Y, 0, none⟩) HY.out.2.2).trans HY.out.1, (HBB.out.cell (p := ⟨Y, 1, none⟩) HY.out.2.2).trans HY.out.2.1, Nat.lt_of_lt_of_le HY.out.2.2 HBB.out.size⟩
  replace HT := Lib.hid (HT0.out.later HB.out)
  clear hs3 HBB HSV HR
  have p1 : w4.cell? ⟨P, 1, none⟩ = some (.slice (some ⟨g, 0, none⟩) 1 c') := HP1.out.cell 1
  go_wp2_with fail
  refine wp_loop_rounds 2 ?_
  rw [rounds_succ]
  go_upto_region 14 with (first
    | (refine wpList_load_has ?_ 54 (.tmp 78) ?_ g ?_ _ (awC b c) _ HT.out.box Tryz.underlying54 ?_ HTI.out ?_; rfl; rfl; rfl; rfl)
    | (refine wpList_store_has ?_ 54 (.tmp 18) (.tmp 79) ?_ w4.heap.size ?_ (awC b c) ?_ _ _ (Has.new' w4 w4.heap.size zeroT _ rfl) HTI.out ?_ ?_ ?_; rfl; rfl; rfl; rfl; rfl; rfl; intro w5 hh hl))
  have hb5 : Below w4.heap.size w4 w5 := Below.trans (b := (w4.alloc (.cells zeroT 54))) (by (repeat' (first | (with_reducible exact Below.refl _ _) | (with_reducible refine Below.setCell ?_ ?_ _) | (with_reducible refine below_drewN ?_ _) | (with_reducible refine Below.drew ?_) | (with_reducible refine Below.alloc ?_ ?_ _))) <;> (first | omega | (simp <;> omega))) (hl.below (fun k hk => by have hk' : k = w4.heap.size := hk; omega) (by simp))
  have H18 := Lib.hid hh
  have HX5 : Hid (w5.ownsRow w3.heap.size 230 5 (.slice (some ⟨X1, 0, none⟩) 1 x1) 1 [.int .i64 7, .int .i64 0, .int .i64 0, .int .i64 50, .int .i64 15]) := Lib.hid (row_below HX1.out hb5)
  replace HB := Lib.hid (HB.out.trans (hb5.mono HB.out.size))
  replace HWT := Lib.hid (HWT.out.below hb5 HWT.out.lt)
  replace HY : Hid (w5.cell? ⟨Y, 0, none⟩ = some (.int .i64 15) ∧ w5.cell? ⟨Y, 1, none⟩ = some (.int .i64 15) ∧ Y < w5.heap.size) := Lib.hid ⟨(hb5.cell (p := ⟨Y, 0, none⟩) HY.out.2.2).trans HY.out.1, (hb5.cell (p := ⟨Y, 1, none⟩) HY.out.2.2).trans HY.out.2.1, Nat.lt_of_lt_of_le HY.out.2.2 hb5.size⟩
  clear hb5 hh hl p1 HX1
  obtain ⟨G18, hG⟩ : ∃ Q, w4.heap.size = Q := ⟨_, rfl⟩
  have HXG : Hid (w3.heap.size ≤ X1 ∧ X1 < G18) := Lib.hid (by rw [← hG]; exact hXG)
  rw [hG] at H18 ⊢
  clear hG hXG
  have HSV : Hid (∀ V, Below w5.heap.size w5 V → V.cell? ⟨gg, 1, none⟩ = some (.int .i64 50) ∧ V.cell? ⟨G18, 20, none⟩ = some (.slice (some ⟨b, 0, none⟩) 1 c)) := Lib.hid fun V hb =>
    ⟨(HWT.out.below hb HWT.out.lt).cell (by omega), (H18.out.below hb H18.out.lt).cell 20⟩
  have HBB : Hid (Below w5.heap.size w5 w5.drew) := Lib.hid (Below.drew (Below.refl _ _))
  have HR : Hid True := Lib.hid trivial
  have hlen := HWT.out.len
  have hw1 : IntKind.i64.wrap 1 = 1 := by decide
  have hw0 : IntKind.i64.wrap (0 + 1) = 1 := by decide
  go_region_held3 (fun V => V.cell? ⟨gg, 1, none⟩ = some (.int .i64 50) ∧ V.cell? ⟨G18, 20, none⟩ = some (.slice (some ⟨b, 0, none⟩) 1 c)) (exact HSV.out _ HBB.out) (first
    | (go_at_call 137; refine (cdivide_one 50 b c _ (by omega) (by omega) (HT0.out.later (HB.out.trans (HBB.out.mono HB.out.size))).part).mono ?_; rintro e w6 ⟨Z, rfl, hz0, hz1, hzl, hzb, hb⟩; replace HBB : Hid (Below w5.heap.size w5 w6) := Lib.hid (HBB.out.trans (hb.mono HBB.out.size)); replace HR := Lib.hid (And.intro hz0 (And.intro hz1 hzl)); clear hz0 hz1 hzl hzb hb))
  have HZ : Hid (w6.cell? ⟨Z, 0, none⟩ = some (.int .i64 0) ∧ w6.cell? ⟨Z, 1, none⟩ = some (.int .i64 50) ∧ Z < w6.heap.size) := Lib.hid HR.out
  have HX6 : Hid (w6.ownsRow w3.heap.size 230 5 (.slice (some ⟨X1, 0, none⟩) 1 x1) 1 [.int .i64 7, .int .i64 0, .int .i64 0, .int .i64 50, .int .i64 15]) := Lib.hid (row_below HX5.out HBB.out)
  replace HB := Lib.hid (HB.out.trans (HBB.out.mono HB.out.size))
  replace H18 := Lib.hid (H18.out.below HBB.out H18.out.lt)
  replace HY : Hid (w6.cell? ⟨Y, 0, none⟩ = some (.int .i64 15) ∧ w6.cell? ⟨Y, 1, none⟩ = some (.int .i64 15) ∧ Y < w6.heap.size) := Lib.hid ⟨(HBB.out.cell (p := ⟨Y, 0, none⟩) HY.out.2.2).trans HY.out.1, (HBB.out.cell (p := ⟨Y, 1, none⟩) HY.out.2.2).trans HY.out.2.1, Nat.lt_of_lt_of_le HY.out.2.2 HBB.out.size⟩
  clear HBB HSV HR HX5 hlen HWT HO1 HP1 HO
  have y1 : w6.cell? ⟨Y, 1, none⟩ = some (.int .i64 15) := HY.out.2.1
  have C2 := Lib.hid (parts_two 15 0 50 Z 2 w6 (by omega) (by omega) (by omega) (by omega) (by omega) (by omega) (by omega) HZ.out.1 HZ.out.2.1 HZ.out.2.2)
  go_wp2_with fail
  refine C2.out.mono ?_
  rintro e w7 ⟨U, f2, rfl, hr, hle, hf, hb⟩
  obtain ⟨u0, u1⟩ := two_fair2 (by simpa using hf)
  have HUG : Hid (G18 < U) := Lib.hid (Nat.lt_of_lt_of_le H18.out.lt hle)
  have HU : Hid (w7.cell? ⟨U, 0, none⟩ = some (.int .i64 0) ∧ w7.cell? ⟨U, 1, none⟩ = some (.int .i64 15) ∧ U < w7.heap.size) := Lib.hid ⟨by rw [hr.cell 0 (by omega), u0], by rw [hr.cell 1 (by omega), u1], hr.lt⟩
  have HX7 : Hid (w7.ownsRow w3.heap.size 230 5 (.slice (some ⟨X1, 0, none⟩) 1 x1) 1 [.int .i64 7, .int .i64 0, .int .i64 0, .int .i64 50, .int .i64 15]) := Lib.hid (row_below HX6.out hb)
  replace HZ : Hid (w7.cell? ⟨Z, 0, none⟩ = some (.int .i64 0) ∧ w7.cell? ⟨Z, 1, none⟩ = some (.int .i64 50) ∧ Z < w7.heap.size) := Lib.hid ⟨(hb.cell (p := ⟨Z, 0, none⟩) HZ.out.2.2).trans HZ.out.1, (hb.cell (p := ⟨Z, 1, none⟩) HZ.out.2.2).trans HZ.out.2.1, Nat.lt_of_lt_of_le HZ.out.2.2 hb.size⟩
  replace HB := Lib.hid (HB.out.trans (hb.mono HB.out.size))
  replace H18 := Lib.hid (H18.out.below hb H18.out.lt)
  clear y1 C2 hr hle hf hb u0 u1 HX6 HY
  have z0 := HZ.out.1
  go_wp2_with fail
  refine wp_loop_rounds 3 ?_
  rw [rounds_succ]
  go_wp2_with fail
  have HSV : Hid (∀ V, Below w7.heap.size w7 V → V.cell? ⟨G18, 0, none⟩ = some (.int .i64 1) ∧ V.cell? ⟨U, 0, none⟩ = some (.int .i64 0)) := Lib.hid fun V hb =>
    ⟨(H18.out.below hb H18.out.lt).cell 0, (hb.cell (p := ⟨U, 0, none⟩) HU.out.2.2).trans HU.out.1⟩
  have HBB : Hid (Below w7.heap.size w7 w7.drew) := Lib.hid (Below.drew (Below.refl _ _))
  have C3 : Hid (∀ w, Calls Tryz.prog 175 #[.slice (some ⟨X1, 0, none⟩) 1 x1, .agg #[.int .i64 7, .int .i64 1, .int .i64 0, .int .i64 0, .int .i64 0]] w fun r w' => r = .returned (.slice (some ⟨X1, 0, none⟩) 1 x1) ∧ Below w.heap.size w w') := Lib.hid fun w => cadd_zero (.slice (some ⟨X1, 0, none⟩) 1 x1) 7 1 0 0 w
  go_region_held3 (fun V => V.cell? ⟨G18, 0, none⟩ = some (.int .i64 1) ∧ V.cell? ⟨U, 0, none⟩ = some (.int .i64 0)) (exact HSV.out _ HBB.out) (first
    | (go_at_call 175; refine (C3.out _).mono ?_; rintro e w8 ⟨rfl, hb⟩; replace HBB : Hid (Below w7.heap.size w7 w8) := Lib.hid (HBB.out.trans (hb.mono HBB.out.size)); clear hb))
  have HX8 : Hid (w8.ownsRow w3.heap.size 230 5 (.slice (some ⟨X1, 0, none⟩) 1 x1) 1 [.int .i64 7, .int .i64 0, .int .i64 0, .int .i64 50, .int .i64 15]) := Lib.hid (row_below HX7.out HBB.out)
  have HU8 : Hid (w8.cell? ⟨U, 1, none⟩ = some (.int .i64 15) ∧ U < w8.heap.size) := Lib.hid ⟨(HBB.out.cell (p := ⟨U, 1, none⟩) HU.out.2.2).trans HU.out.2.1, Nat.lt_of_lt_of_le HU.out.2.2 HBB.out.size⟩
  have z1 : w8.cell? ⟨Z, 1, none⟩ = some (.int .i64 50) := (HBB.out.cell (p := ⟨Z, 1, none⟩) HZ.out.2.2).trans HZ.out.2.1
  replace HB := Lib.hid (HB.out.trans (HBB.out.mono HB.out.size))
  replace H18 := Lib.hid (H18.out.below HBB.out H18.out.lt)
  have bb0 : w8.cell? ⟨b, 0, none⟩ = some (.int .i64 2) := by
    obtain ⟨b', o', e', had, hc0, hc1⟩ := Pairs.get (HT0.out.later HB.out).part (show 0 < 1 by omega)
    simp only [Option.some.injEq, Addr.mk.injEq, and_true] at e'
    obtain ⟨rfl, rfl⟩ := e'
    simpa using hc0
  have g20 : w8.cell? ⟨G18, 20, none⟩ = some (.slice (some ⟨b, 0, none⟩) 1 c) := H18.out.cell 20
  clear HBB HSV C3 z0 HX7 HU HZ
  go_wp2_with fail
  rw [rounds_succ]
  go_wp2_with fail
  have HSV : Hid (∀ V, Leaves (fun k => k = X1) w8 V → V.cell? ⟨G18, 0, none⟩ = some (.int .i64 1) ∧ V.cell? ⟨U, 1, none⟩ = some (.int .i64 15)) := Lib.hid fun V hb =>
    ⟨(H18.out.leaves hb (by have := HXG.out; show ¬ G18 = X1; omega)).cell 0, (cell_leaves hb HU8.out.2 (by have := HXG.out; have := HUG.out; show ¬ U = X1; omega)).trans HU8.out.1⟩
  have HBB : Hid (Leaves (fun k => k = X1) w8 w8.drew) := Lib.hid (Leaves.drew (Leaves.refl _ _))
  have HR : Hid True := Lib.hid trivial
  have C3 : Hid (∀ V, V.ownsRow w3.heap.size 230 5 (.slice (some ⟨X1, 0, none⟩) 1 x1) 1 [.int .i64 7, .int .i64 0, .int .i64 0, .int .i64 50, .int .i64 15] → w3.heap.size ≤ V.heap.size → Calls Tryz.prog 175 #[.slice (some ⟨X1, 0, none⟩) 1 x1, .agg #[.int .i64 7, .int .i64 1, .int .i64 2, .int .i64 50, .int .i64 15]] V _) := Lib.hid fun V h1 h2 => cadd_any w3.heap.size 1 (.slice (some ⟨X1, 0, none⟩) 1 x1) _ 7 1 2 50 15 V (by omega) (by decide) h1 (.inr ⟨_, _, rfl⟩) h2
  go_region_held3 (fun V => V.cell? ⟨G18, 0, none⟩ = some (.int .i64 1) ∧ V.cell? ⟨U, 1, none⟩ = some (.int .i64 15)) (exact HSV.out _ HBB.out) (first
    | (go_at_call 175; refine (C3.out w8.drew HX8.out (by have := HXb.out; have := HXG.out; have := H18.out.lt; show _ ≤ w8.heap.size; omega)).mono ?_; rintro e wa ⟨X2, x2, rfl, hr, hl⟩; replace HBB : Hid (Leaves (fun k => k = X1) w8 wa) := Lib.hid (HBB.out.trans (hl.mono fun k hk => (Option.some.inj hk).symm)); replace HR := Lib.hid hr; clear hr hl))
  have HE : Hid (wa.ownsRow w.heap.size 230 5 (.slice (some ⟨X2, 0, none⟩) 2 x2) 2 ((shC 7 0 0 50 15).toList ++ (shC 7 1 2 50 15).toList)) := Lib.hid (World.ownsRow.mono_base HR.out HXb.out)
  replace HB : Hid (Below w.heap.size w wa) := Lib.hid (HB.out.trans (HBB.out.below (fun k hk => by have hk' : k = X1 := hk; have := HXG.out; have := HXb.out; omega) HB.out.size))
  clear HBB HSV C3 z1 bb0 g20 HX8 HU8 H18 HR
  go_wp2_with fail
  rw [rounds_succ]
  go_wp2_with fail
  rw [rounds_succ]
  go_wp2_with fail
  go_ret2
  exact ⟨X2, x2, rfl, HE.out, HB.out⟩
end Go.Proofs.YtbeikfopneeodaaGreat
