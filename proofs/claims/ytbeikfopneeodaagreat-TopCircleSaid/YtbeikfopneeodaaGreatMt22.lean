/- cession.fits, cession.valid at the example. -/
import Derived.Test.YtbeikfopneeodaaGreatMt21
namespace Go.Proofs.YtbeikfopneeodaaGreat
open Go.RowKit
set_option linter.unusedVariables false

set_option maxRecDepth 100000 in
theorem sec_info {T D : Nat} : (Tryz.prog.info? 234).map (·.size) = some (secC T D).size := by
  show _ = some 5
  kernel_rfl
/-- a section's zero -/
def zeroS : Array Value := #[.int .i64 0, .slice none 0 0, .slice none 0 0, .slice none 0 0, .slice none 0 0]

set_option maxRecDepth 100000 in
set_option maxHeartbeats 2000000 in
theorem cfits_aw (g b c c' A c1 B c2 S T D K : Nat) (w : World) (h : TrAt w g b c) (ho : OutAt w A B S T D K) : Calls Tryz.prog 132 #[.agg (awP g c'), .agg (outC A c1 B c2 S K)] w (BoolPost true w) := by
  have HT := Lib.hid h
  have HO := Lib.hid ho
  have HSI : Hid _ := Lib.hid (sec_info (T := T) (D := D))
  have al := ho.lt.1
  have sl := ho.sec.lt
  have gl := h.box.lt
  clear h ho
  unfold awP outC
  go_enter Tryz.func132, Tryz.ntmps132
  go_wp2_with fail
  have hb1 : Below w.heap.size w ((w.alloc (.cells #[.int .i64 0, .slice (some ⟨g, 0, none⟩) 1 c', .slice none 0 0, .slice none 0 0] 59)).alloc (.cells #[.slice (some ⟨A, 0, none⟩) 1 c1, .slice (some ⟨B, 0, none⟩) 1 c2, .slice (some ⟨S, 0, none⟩) 1 1, .slice (some ⟨K, 0, none⟩) 1 1] 168)) := (by (repeat' (first | (with_reducible exact Below.refl _ _) | (with_reducible refine Below.setCell ?_ ?_ _) | (with_reducible refine below_drewN ?_ _) | (with_reducible refine Below.drew ?_) | (with_reducible refine Below.alloc ?_ ?_ _))) <;> (first | omega | (simp <;> omega)))
  refine (Tryz.slices_Clone_int A 0 1 c1 [100] _ (by simp) (by omega) ?_).mono ?_
  · intro j hj
    obtain rfl : j = 0 := by simp at hj; omega
    exact (HO.out.below hb1).am
  rintro e w1 ⟨v, rfl, hr, hv, hb⟩
  have HP1 : Hid (Has w1 w.heap.size #[.int .i64 0, .slice (some ⟨g, 0, none⟩) 1 c', .slice none 0 0, .slice none 0 0] 59) := Lib.hid (((Has.new w _ _).alloc _).below hb (by simp; omega))
  have HO1 : Hid (Has w1 (w.heap.size + 1) #[.slice (some ⟨A, 0, none⟩) 1 c1, .slice (some ⟨B, 0, none⟩) 1 c2, .slice (some ⟨S, 0, none⟩) 1 1, .slice (some ⟨K, 0, none⟩) 1 1] 168) := Lib.hid ((Has.new' _ _ _ _ (by simp)).below hb (by simp))
  have HB := Lib.hid (hb1.trans (hb.mono hb1.size))
  have hown := Own.made (F := fun _ => .int .i64 100) hr (fun j hj => by (obtain rfl : j = 0 := by omega); rfl)
  have hown2 : ∃ R cr, v = .slice (some ⟨R, 0, none⟩) 1 cr ∧ Own w1 (w.heap.size + 2) R 1 cr 1 3 (fun _ => .int .i64 100) := by
    rcases hown with ⟨_, h0⟩ | ⟨R, cr, hv, ho⟩
    · omega
    · exact ⟨R, cr, hv, by simpa using ho⟩
  obtain ⟨R, cr, rfl, hR⟩ := hown2
  have HR := Lib.hid hR
  have hRb := hR.base_le
  have hRl := hR.lt
  replace HT := Lib.hid (HT.out.later HB.out)
  have HO2 : Hid (OutAt w1 A B S T D K) := Lib.hid (HO.out.below HB.out)
  have HN : Hid (A < w.heap.size ∧ S < w.heap.size ∧ D < w.heap.size ∧ K < w.heap.size ∧ g < w.heap.size ∧ w.heap.size + 2 ≤ R ∧ R < w1.heap.size) := Lib.hid ⟨al, sl, HO.out.ced.lt, HO.out.kept.lt, gl, hRb, hRl⟩
  clear hown hR hr hv hb hb1 al sl gl HO hRb hRl
  obtain ⟨Q, hQ⟩ : ∃ Q, w.heap.size = Q := ⟨_, rfl⟩
  obtain ⟨P, hP⟩ : ∃ Q, w.heap.size + 1 = Q := ⟨_, rfl⟩
  rw [hP] at HO1 ⊢
  rw [hQ] at HP1 ⊢
  obtain ⟨o0, of, ol⟩ := HO1.out.rules
  have p0 : w1.cell? ⟨P, 0, none⟩ = some (.slice (some ⟨A, 0, none⟩) 1 c1) := HO1.out.cell 0
  have p1 : w1.cell? ⟨P, 1, none⟩ = some (.slice (some ⟨B, 0, none⟩) 1 c2) := HO1.out.cell 1
  have p2 : w1.cell? ⟨P, 2, none⟩ = some (.slice (some ⟨S, 0, none⟩) 1 1) := HO1.out.cell 2
  clear o0 of
  go_wp2_with fail
  refine wp_loop_rounds 2 ?_
  rw [rounds_succ]
  go_upto_region 8 with (first
    | (refine wpList_load_has ?_ 234 (.tmp 37) ?_ S ?_ _ (secC T D) _ HO2.out.sec Tryz.underlying234 ?_ HSI.out ?_; rfl; rfl; rfl; rfl)
    | (refine wpList_store_has ?_ 234 (.tmp 8) (.tmp 38) ?_ w1.heap.size ?_ (secC T D) ?_ _ _ (Has.new' w1 w1.heap.size zeroS _ rfl) HSI.out ?_ ?_ ?_; rfl; rfl; rfl; rfl; rfl; rfl; intro w2 hh hl))
  have hb2 : Below w1.heap.size w1 w2 := Below.trans (b := (w1.alloc (.cells zeroS 234))) (by (repeat' (first | (with_reducible exact Below.refl _ _) | (with_reducible refine Below.setCell ?_ ?_ _) | (with_reducible refine below_drewN ?_ _) | (with_reducible refine Below.drew ?_) | (with_reducible refine Below.alloc ?_ ?_ _))) <;> (first | omega | (simp <;> omega))) (hl.below (fun k hk => by have hk' : k = w1.heap.size := hk; omega) (by simp))
  have HS8 := Lib.hid hh
  replace HB := Lib.hid (HB.out.trans (hb2.mono HB.out.size))
  replace HP1 := Lib.hid (HP1.out.below hb2 HP1.out.lt)
  replace HO1 := Lib.hid (HO1.out.below hb2 HO1.out.lt)
  replace HT := Lib.hid (HT.out.later hb2)
  replace HO2 := Lib.hid (HO2.out.below hb2)
  replace HR := Lib.hid (HR.out.below hb2 HR.out.lt)
  clear p0 p1 p2 hb2 hh hl ol
  obtain ⟨G8, hG⟩ : ∃ Q, w1.heap.size = Q := ⟨_, rfl⟩
  rw [hG] at HS8 HN ⊢
  have s0 : w2.cell? ⟨G8, 0, none⟩ = some (.int .i64 1) := HS8.out.cell 0
  have s2 : w2.cell? ⟨G8, 2, none⟩ = some (.slice (some ⟨D, 0, none⟩) 1 1) := HS8.out.cell 2
  have q1 : w2.cell? ⟨Q, 1, none⟩ = some (.slice (some ⟨g, 0, none⟩) 1 c') := HP1.out.cell 1
  have g0 : w2.cell? ⟨g, 0, none⟩ = some (.int .i64 1) := HT.out.box.cell 0
  go_quiet (fail)
  obtain ⟨w3, hw3⟩ : ∃ W, w2.drewN nq = W := ⟨_, rfl⟩
  replace HB := Lib.hid (below_drewN HB.out nq)
  have HO3 : Hid (OutAt (w2.drewN nq) A B S T D K) := Lib.hid ⟨HO2.out.am, HO2.out.pd, HO2.out.sec.drewN nq, HO2.out.sub.drewN nq, HO2.out.ced.drewN nq, HO2.out.kept.drewN nq, HO2.out.lt⟩
  replace HO1 := Lib.hid (HO1.out.drewN nq)
  replace HR := Lib.hid (HR.out.drewN nq)
  replace HS8 := Lib.hid (HS8.out.drewN nq)
  rw [hw3] at HB HO3 HO1 HR HS8 ⊢
  clear hw3 HO2 HP1 HT s0 s2 q1 g0
  have s2 : w3.cell? ⟨G8, 2, none⟩ = some (.slice (some ⟨D, 0, none⟩) 1 1) := HS8.out.cell 2
  have d0 : w3.cell? ⟨D, 0, none⟩ = some (.int .i64 50) := HO3.out.ced.cell 0
  have r0 : w3.cell? ⟨R, 0, none⟩ = some (.int .i64 100) := HR.out.cell (by omega)
  have rf : w3.frozen? ⟨R, 0, none⟩ = false := HR.out.free _
  go_wp2_with fail
  refine wp_loop_rounds 2 ?_
  rw [rounds_succ]
  go_wp2_with fail
  rw [rounds_succ]
  go_wp2_with fail
  rw [rounds_succ]
  have p3 : w3.cell? ⟨P, 3, none⟩ = some (.slice (some ⟨K, 0, none⟩) 1 1) := HO1.out.cell 3
  have k0 : w3.cell? ⟨K, 0, none⟩ = some (.int .i64 50) := HO3.out.kept.cell 0
  have nP : P ≠ R := by have := HN.out; omega
  have nK : K ≠ R := by have := HN.out; omega
  go_wp2_with fail
  refine (Tryz.slices_Equal_int K 0 1 1 R 0 1 cr [50] [50] _ (by simp) (by simp) (by omega) (by omega) ?_ ?_).mono ?_
  · intro j hj
    obtain rfl : j = 0 := by simp at hj; omega
    exact (cell_far nK).trans k0
  · intro j hj
    obtain rfl : j = 0 := by simp at hj; omega
    exact World.cell?_setCell_same' _ _ _ (by rw [r0]; rfl)
  rintro e w4 ⟨rfl, q, rfl⟩
  go_wp2_with fail
  go_ret
  exact ⟨rfl, below_drewN (HB.out.setCell (p := ⟨R, 0, none⟩) (by have := HN.out; show w.heap.size ≤ R; omega) _) q⟩

theorem share_all : (Tryz.prog.info? 230).map (fun i => (i.zero, i.size, i.bytes)) = some (some (.agg #[.int .i64 0, .int .i64 0, .int .i64 0, .int .i64 0, .int .i64 0]), 5, 40) := by kernel_rfl
/-- a share -/
def shC (a b c d e : Int) : Array Value := #[.int .i64 a, .int .i64 b, .int .i64 c, .int .i64 d, .int .i64 e]
theorem share_info {a b c d e : Int} : (Tryz.prog.info? 230).map (·.size) = some (shC a b c d e).size := by
  show _ = some 5
  kernel_rfl

set_option maxRecDepth 100000 in
theorem cadd_zero (v : Value) (a b c e : Int) (w : World) : Calls Tryz.prog 175 #[v, .agg (shC a b c 0 e)] w fun r w' => r = .returned v ∧ Below w.heap.size w w' := by
  unfold shC
  go_enter Tryz.func175, Tryz.ntmps175
  go_wp2_with fail
  go_ret
  exact ⟨rfl, (Below.refl _ _).alloc (Nat.le_refl _) _⟩

set_option maxRecDepth 100000 in
set_option maxHeartbeats 1000000 in
/-- one share more -/
theorem cadd_any (base n : Nat) (v : Value) (xs : List Value) (a b c d e : Int) (w : World) (hn : n ≤ 100) (hd : (d == 0) = false) (hx : w.ownsRow base 230 5 v n xs) (hv : v = .slice none 0 0 ∨ ∃ g cap, v = .slice (some ⟨g, 0, none⟩) n cap) (hb : base ≤ w.heap.size) :
    Calls Tryz.prog 175 #[v, .agg (shC a b c d e)] w fun r w' => ∃ g cap, r = .returned (.slice (some ⟨g, 0, none⟩) (n + 1) cap) ∧ w'.ownsRow base 230 5 (.slice (some ⟨g, 0, none⟩) (n + 1) cap) (n + 1) (xs ++ [.int .i64 a, .int .i64 b, .int .i64 c, .int .i64 d, .int .i64 e]) ∧ Leaves (fun k => v.ownBlock = some k) w w' := by
  obtain ⟨i0, hi0, hz0, hz1, hz2⟩ := info_parts share_all
  have HI := Lib.hid hi0
  have HZ0 := Lib.hid hz0
  have HZ1 := Lib.hid hz1
  have HZ2 := Lib.hid hz2
  have HX : Hid (w.ownsRow base 230 5 v n xs) := Lib.hid hx
  clear hi0 hz0 hz1 hz2 hx
  unfold shC
  go_enter Tryz.func175, Tryz.ntmps175
  go_wp2_with ((at_builtin; refine wpList_append_lies _ rfl _ _ 225 rfl base 230 i0 _ 5 40 Tryz.underlying225 HI.out HZ0.out HZ1.out HZ2.out rfl (by omega) v n xs rfl ((HX.out.alloc _).alloc _) ⟨w.heap.size + 1, 0, none⟩ 1 1 [.int .i64 a, .int .i64 b, .int .i64 c, .int .i64 d, .int .i64 e] rfl rfl (World.news_of_block (cs := #[.int .i64 a, .int .i64 b, .int .i64 c, .int .i64 d, .int .i64 e]) (t := 230) (fr := (0, 0)) (by rw [show w.heap.size + 1 = (w.alloc (.cells #[.int .i64 a, .int .i64 b, .int .i64 c, .int .i64 d, .int .i64 e] 230)).heap.size by simp]; exact heap_alloc_new _ _)) (by simp [Value.oneCell']) (by omega) (by unfold maxLen; omega) (by omega) (by simp; omega) (w.heap.size + 1 + 1) (by simp) ?_; intro g cap w4 hown hgrow hat hlt))
  have HL : Hid (Leaves (fun k => v.ownBlock = some k) w w4) := Lib.hid ((((Leaves.refl _ w).alloc _).alloc _).grown hgrow (fun k hk => .inl hk))
  have HO := Lib.hid hown
  clear hown hgrow hat hlt HX
  go_wp2_with fail
  go_ret
  exact ⟨g, cap, rfl, HO.out, HL.out⟩
end Go.Proofs.YtbeikfopneeodaaGreat
