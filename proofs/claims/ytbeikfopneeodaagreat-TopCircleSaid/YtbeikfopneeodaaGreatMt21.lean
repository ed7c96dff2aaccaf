/- programme.run, programme.Evaluate at the example. -/
import Derived.Test.YtbeikfopneeodaaGreatMt20
namespace Go.Proofs.YtbeikfopneeodaaGreat
open Go.RowKit
set_option linter.unusedVariables false

theorem cell_far {w : World} {p : Addr} {k i : Nat} {u : Value} (h : k ≠ p.block) : (w.setCell p u).cell? ⟨k, i, none⟩ = w.cell? ⟨k, i, none⟩ := by
  unfold World.cell?
  rw [show (w.setCell p u).heap[k]? = w.heap[k]? from Below.heap_setCell w p u k h]
theorem cell_leaves {S : Nat → Prop} {w w' : World} {k i : Nat} (h : Leaves S w w') (hk : k < w.heap.size) (hn : ¬ S k) : w'.cell? ⟨k, i, none⟩ = w.cell? ⟨k, i, none⟩ := by
  unfold World.cell?
  rw [show w'.heap[k]? = w.heap[k]? from h.block k hk hn]
/-- what the outcome of the example holds -/
structure OutAt (w : World) (A B S T D K : Nat) : Prop where
  am : w.cell? ⟨A, 0, none⟩ = some (.int .i64 100)
  pd : w.cell? ⟨B, 0, none⟩ = some (.int .i64 30)
  sec : Has w S (secC T D) 234
  sub : Has w T #[.int .i64 100] 3
  ced : Has w D #[.int .i64 50] 3
  kept : Has w K #[.int .i64 50] 3
  lt : A < w.heap.size ∧ B < w.heap.size
theorem OutAt.below {w w' : World} {A B S T D K : Nat} (h : OutAt w A B S T D K) (hb : Below w.heap.size w w') : OutAt w' A B S T D K :=
  ⟨(hb.cell (p := ⟨A, 0, none⟩) h.lt.1).trans h.am, (hb.cell (p := ⟨B, 0, none⟩) h.lt.2).trans h.pd, h.sec.below hb h.sec.lt, h.sub.below hb h.sub.lt, h.ced.below hb h.ced.lt, h.kept.below hb h.kept.lt, Nat.lt_of_lt_of_le h.lt.1 hb.size, Nat.lt_of_lt_of_le h.lt.2 hb.size⟩
/-- its cells -/
def outC (A c1 B c2 S K : Nat) : Array Value := #[.slice (some ⟨A, 0, none⟩) 1 c1, .slice (some ⟨B, 0, none⟩) 1 c2, .slice (some ⟨S, 0, none⟩) 1 1, .slice (some ⟨K, 0, none⟩) 1 1]
set_option maxRecDepth 100000 in
theorem out_info {A c1 B c2 S K : Nat} : (Tryz.prog.info? 168).map (·.size) = some (outC A c1 B c2 S K).size := by
  show _ = some 4
  kernel_rfl

set_option maxRecDepth 100000 in
set_option maxHeartbeats 4000000 in
theorem prun_aw (g b c c' l cl : Nat) (w : World) (h : TrAt w g b c) (hl : LossAt w l) (hgb : g < w.heap.size ∧ b < w.heap.size ∧ l < w.heap.size) : Calls Tryz.prog 128 #[.agg (awP g c'), .slice (some ⟨l, 0, none⟩) 1 cl, .func (.func 129) #[] #[]] w
    fun e w' => ∃ A c1 B2 c2 S T D K, e = .returned (.tuple #[.agg (outC A c1 B2 c2 S K), .int .i64 0]) ∧ OutAt w' A B2 S T D K ∧ (w.heap.size ≤ A ∧ w.heap.size ≤ B2 ∧ w.heap.size ≤ S ∧ w.heap.size ≤ T ∧ w.heap.size ≤ D ∧ w.heap.size ≤ K) ∧ Below w.heap.size w w' := by
  have HT := Lib.hid h
  have HL := Lib.hid hl
  have HPI := Lib.hid (prog_info g c')
  have HP := Lib.hid ((Has.new w (awP g c') 59).alloc (.cells #[.slice none 0 0, .slice none 0 0, .slice none 0 0, .slice none 0 0] 168))
  have HO := Lib.hid (Has.new' (w.alloc (.cells (awP g c') 59)) (w.heap.size + 1) #[.slice none 0 0, .slice none 0 0, .slice none 0 0, .slice none 0 0] 168 (by simp))
  clear h hl
  have HAP : Hid (awP g c' = #[.int .i64 0, .slice (some ⟨g, 0, none⟩) 1 c', .slice none 0 0, .slice none 0 0]) := Lib.hid rfl
  go_enter Tryz.func128, Tryz.ntmps128
  go_wp2_with (refine wpList_load_has ?_ 59 (.tmp 3) ?_ w.heap.size ?_ _ (awP g c') _ HP.out Tryz.underlying59 ?_ HPI.out ?_; rfl; rfl; rfl; rfl)
  have hb0 : Below w.heap.size w ((w.alloc (.cells (awP g c') 59)).alloc (.cells #[.slice none 0 0, .slice none 0 0, .slice none 0 0, .slice none 0 0] 168)) := (by (repeat' (first | (with_reducible exact Below.refl _ _) | (with_reducible refine Below.setCell ?_ ?_ _) | (with_reducible refine below_drewN ?_ _) | (with_reducible refine Below.drew ?_) | (with_reducible refine Below.alloc ?_ ?_ _))) <;> (first | omega | (simp <;> omega)))
  refine (amounts_aw g b c c' l cl _ (HT.out.later hb0) (HL.out.below hb0 HL.out.lt)).mono ?_
  rintro e w1 ⟨A, B2, C, c1, c2, c3, rfl, hA, hB, hC, hb⟩
  have hsz0 : w.heap.size + 2 ≤ A ∧ w.heap.size + 2 ≤ B2 ∧ w.heap.size + 2 ≤ C := by
    have h1 := hA.base_le
    have h2 := hB.base_le
    have h3 := hC.base_le
    simp at h1 h2 h3
    omega
  replace HP := Lib.hid (HP.out.below hb (by simp; omega))
  replace HO := Lib.hid (HO.out.below hb (by simp))
  have HB := Lib.hid (hb0.trans (hb.mono hb0.size))
  have HAm := Lib.hid hA
  have HPa := Lib.hid hB
  have HSu := Lib.hid hC
  replace HT := Lib.hid (HT.out.later HB.out)
  replace HL := Lib.hid (HL.out.below HB.out HL.out.lt)
  clear hA hB hC hb hb0
  obtain ⟨Q, hQ⟩ : ∃ Q, w.heap.size = Q := ⟨_, rfl⟩
  rw [hQ] at HP HO hsz0
  rw [hQ]
  go_wp2_with (refine wpList_load_has ?_ 59 (.tmp 3) ?_ Q ?_ _ (awP g c') _ HP.out Tryz.underlying59 ?_ HPI.out ?_; rfl; rfl; rfl; rfl)
  refine (towers_aw g b c c' w1 HT.out).mono ?_
  rintro e w2 ⟨G, I, cap, rfl, hG, hI, hb⟩
  have hs1 := HB.out.size
  replace HB := Lib.hid (HB.out.trans (hb.mono hs1))
  replace HP := Lib.hid (HP.out.below hb HP.out.lt)
  replace HO := Lib.hid (HO.out.below hb HO.out.lt)
  replace HT := Lib.hid (HT.out.later hb)
  replace HL := Lib.hid (HL.out.below hb HL.out.lt)
  replace HAm := Lib.hid (HAm.out.below hb HAm.out.lt)
  replace HPa := Lib.hid (HPa.out.below hb HPa.out.lt)
  replace HSu := Lib.hid (HSu.out.below hb HSu.out.lt)
  have HG := Lib.hid hG
  have HI := Lib.hid hI
  clear hG hI hb hs1
  go_upto_region 7 with ((refine wpList_load_has ?_ 59 (.tmp 3) ?_ Q ?_ _ (awP g c') _ HP.out Tryz.underlying59 ?_ HPI.out ?_; rfl; rfl; rfl; rfl))
  have q1 : w2.cell? ⟨Q, 1, none⟩ = some (.slice (some ⟨g, 0, none⟩) 1 c') := HP.out.cell 1
  have ql : Q < w2.heap.size := HP.out.lt
  have hm1 : ∀ w : World, (Instr.makeSlice 166 (.int .i64 1) (.int .i64 1)).run Tryz.prog w = .ok (.slice (some ⟨w.heap.size, 0, none⟩) 1 1) (w.alloc (.cells #[.int .i64 0, .slice none 0 0, .slice none 0 0, .slice none 0 0, .slice none 0 0] 234)) := fun w => by kernel_rfl
  have hm2 : ∀ w : World, (Instr.makeSlice 272 (.int .i64 1) (.int .i64 1)).run Tryz.prog w = .ok (.slice (some ⟨w.heap.size, 0, none⟩) 1 1) (w.alloc (.cells #[.slice none 0 0] 22)) := fun w => by kernel_rfl
  go_upto_region 10 with ((refine wpList_load_has ?_ 59 (.tmp 3) ?_ Q ?_ _ (awP g c') _ HP.out Tryz.underlying59 ?_ HPI.out ?_; rfl; rfl; rfl; rfl); rw [HAP.out])
  clear hm1 hm2 q1 ql
  obtain ⟨w3, hw3⟩ : ∃ W, ((w2.alloc (.cells #[.int .i64 0, .slice (some ⟨g, 0, none⟩) 1 c', .slice none 0 0, .slice none 0 0, .slice (some ⟨l, 0, none⟩) 1 cl, .slice (some ⟨A, 0, none⟩) 1 c1, .slice (some ⟨C, 0, none⟩) 1 c3, .slice (some ⟨w2.heap.size + 1 + 1, 0, none⟩) 1 1, .slice (some ⟨w2.heap.size + 1, 0, none⟩) 1 1, .func (.func 129) #[] #[]] 277)).alloc (.cells #[.int .i64 0, .slice none 0 0, .slice none 0 0, .slice none 0 0, .slice none 0 0] 234)).alloc (.cells #[.slice none 0 0] 22) = W := ⟨_, rfl⟩
  have hsB : Has w3 w2.heap.size (Pl.st ⟨w2.heap.size, g, b, c, c', l, cl, A, c1, C, c3, w2.heap.size + 1 + 1, 0, w2.heap.size + 1⟩) 277 := by rw [← hw3]; exact ((Has.new _ _ _).alloc _).alloc _
  have hsS : Has w3 (w2.heap.size + 1) #[.int .i64 0, .slice none 0 0, .slice none 0 0, .slice none 0 0, .slice none 0 0] 234 := by rw [← hw3]; exact (Has.new' _ _ _ _ (by simp)).alloc _
  have hsE : Has w3 (w2.heap.size + 1 + 1) #[.slice none 0 0] 22 := by rw [← hw3]; exact Has.new' _ _ _ _ (by simp)
  have hb3 : Below w2.heap.size w2 w3 := by rw [← hw3]; exact (by (repeat' (first | (with_reducible exact Below.refl _ _) | (with_reducible refine Below.setCell ?_ ?_ _) | (with_reducible refine below_drewN ?_ _) | (with_reducible refine Below.drew ?_) | (with_reducible refine Below.alloc ?_ ?_ _))) <;> (first | omega | (simp <;> omega)))
  rw [hw3]
  clear hw3
  have HSZ : Hid (g < w2.heap.size ∧ b < w2.heap.size ∧ l < w2.heap.size ∧ A < w2.heap.size ∧ C < w2.heap.size ∧ B2 < w2.heap.size ∧ Q + 1 < w2.heap.size ∧ G < w2.heap.size ∧ I < w2.heap.size ∧ Q + 2 ≤ A ∧ Q + 2 ≤ B2 ∧ w.heap.size = Q) := Lib.hid (by
    have := HB.out.size
    exact ⟨by omega, by omega, by omega, HAm.out.lt, HSu.out.lt, HPa.out.lt, HO.out.lt, HG.out.lt, HI.out.lt, by omega, by omega, hQ⟩)
  replace HB := Lib.hid (HB.out.trans (hb3.mono HB.out.size))
  replace HP := Lib.hid (HP.out.below hb3 HP.out.lt)
  replace HO := Lib.hid (HO.out.below hb3 HO.out.lt)
  replace HT := Lib.hid (HT.out.later hb3)
  replace HL := Lib.hid (HL.out.below hb3 HL.out.lt)
  replace HAm := Lib.hid (HAm.out.below hb3 HAm.out.lt)
  replace HPa := Lib.hid (HPa.out.below hb3 HPa.out.lt)
  replace HSu := Lib.hid (HSu.out.below hb3 HSu.out.lt)
  replace HG := Lib.hid (HG.out.below hb3 HG.out.lt)
  replace HI := Lib.hid (HI.out.below hb3 HI.out.lt)
  obtain ⟨S, hS⟩ : ∃ T, w2.heap.size + 1 = T := ⟨_, rfl⟩
  obtain ⟨E, hE⟩ : ∃ T, w2.heap.size + 1 + 1 = T := ⟨_, rfl⟩
  obtain ⟨B, hB⟩ : ∃ T, w2.heap.size = T := ⟨_, rfl⟩
  have hES : E = S + 1 := by omega
  have hSB : S = B + 1 := by omega
  rw [hE] at hsB hsE ⊢
  rw [hS] at hsB hsS ⊢
  rw [hB] at hsB HSZ ⊢
  have HSB := Lib.hid hsB
  have HSS := Lib.hid hsS
  have HSE := Lib.hid hsE
  clear hsB hsS hsE hb3 hS hE hB hgb
  have HSZ2 : Hid (S = B + 1 ∧ E = S + 1 ∧ w.heap.size ≤ B) := Lib.hid ⟨hSB, hES, by have := HSZ.out; omega⟩
  have b7 : w3.cell? ⟨B, 7, none⟩ = some (.slice (some ⟨E, 0, none⟩) 1 1) := HSB.out.cell 7
  have e0 : w3.cell? ⟨E, 0, none⟩ = some (.slice none 0 0) := HSE.out.cell 0
  have ef : w3.frozen? ⟨E, 0, none⟩ = false := HSE.out.free 0
  have bl : B < w3.heap.size := HSB.out.lt
  have el : E < w3.heap.size := HSE.out.lt
  have q1 : w3.cell? ⟨Q, 1, none⟩ = some (.slice (some ⟨g, 0, none⟩) 1 c') := HP.out.cell 1
  have ql : Q < w3.heap.size := HP.out.lt
  have hmk := mk_int1
  clear hSB hES hsz0 hQ
  go_wp2_with fail
  refine wp_loop_rounds 2 ?_
  rw [rounds_succ]
  have nBE : B ≠ E := by have := HSZ2.out; omega
  go_upto_region 13 with (fail)
  go_region
  obtain ⟨F, hF⟩ : ∃ F, w3.heap.size = F := ⟨_, rfl⟩
  rw [hF]
  have hFs : ∀ W, W = ((w3.setCell ⟨E, 0, none⟩ (.slice (some ⟨F, 0, none⟩) 1 1)).alloc (.cells #[.int .i64 0] 3)).drew → Has W E #[.slice (some ⟨F, 0, none⟩) 1 1] 22 ∧ Has W F #[.int .i64 0] 3 ∧ Leaves (fun k => k = E) w3 W := fun W hW => by
    subst hW
    exact ⟨((HSE.out.put 0 _).alloc _).drew, (Has.new' _ _ _ _ (by simp [← hF])).drew, ((Leaves.one w3 E 0 _).alloc _).drew⟩
  obtain ⟨w4, hw4⟩ : ∃ W, ((w3.setCell ⟨E, 0, none⟩ (.slice (some ⟨F, 0, none⟩) 1 1)).alloc (.cells #[.int .i64 0] 3)).drew = W := ⟨_, rfl⟩
  obtain ⟨hE4, hF4, hL4⟩ := hFs w4 hw4.symm
  rw [hw4]
  have hz := HSZ.out
  have hz2 := HSZ2.out
  have hEF : E < F := by rw [← hF]; exact HSE.out.lt
  have HST : Hid (StAt w4 ⟨B, g, b, c, c', l, cl, A, c1, C, c3, E, F, S⟩) := Lib.hid ⟨⟨HT.out.box.leaves hL4 (by show ¬ g = E; omega), HT.out.part.leaves hL4 (fun ad e => by injection e with e; subst e; show ¬ b = E; omega)⟩,
    HSB.out.leaves hL4 (by show ¬ B = E; omega), HL.out.leaves hL4 (by show ¬ l = E; omega), (HAm.out.of_block (hL4.block A HAm.out.lt (by show ¬ A = E; omega))).cell (by omega), (HSu.out.of_block (hL4.block C HSu.out.lt (by show ¬ C = E; omega))).cell (by omega),
    hE4, hF4.lt, by dsimp only; omega⟩
  replace HB : Hid (Below w.heap.size w w4) := Lib.hid (HB.out.trans (hL4.below (fun k hk => by have hk' : k = E := hk; omega) HB.out.size))
  replace HP := Lib.hid (HP.out.leaves hL4 (by show ¬ Q = E; omega))
  replace HO := Lib.hid (HO.out.leaves hL4 (by show ¬ Q + 1 = E; omega))
  replace HSS := Lib.hid (HSS.out.leaves hL4 (by show ¬ S = E; omega))
  replace HPa := Lib.hid (HPa.out.of_block (hL4.block B2 HPa.out.lt (by show ¬ B2 = E; omega)))
  replace HAm := Lib.hid (HAm.out.of_block (hL4.block A HAm.out.lt (by show ¬ A = E; omega)))
  replace HG := Lib.hid (HG.out.of_block (hL4.block G HG.out.lt (by show ¬ G = E; omega)))
  replace HI := Lib.hid (HI.out.leaves hL4 (by show ¬ I = E; omega))
  have HF := Lib.hid hF4
  clear hw4 hFs hE4 hF4 hL4 hz hz2 hF b7 e0 ef bl el q1 ql hmk HSB HSE HT HL HSu nBE
  go_wp2_with fail
  rw [rounds_succ]
  go_wp2_with fail
  refine wp_loop_rounds 2 ?_
  rw [rounds_succ]
  have gg : w4.cell? ⟨G, 0, none⟩ = some (.slice (some ⟨I, 0, none⟩) 1 1) := HG.out.cell (by omega)
  have ii : w4.cell? ⟨I, 0, none⟩ = some (.int .i64 0) := HI.out.cell 0
  go_wp2_with fail
  refine (sbegin_aw ⟨B, g, b, c, c', l, cl, A, c1, C, c3, E, F, S⟩ I _ rfl w4 HST.out HSS.out HF.out ii (by have := HSZ.out; have := HSZ2.out; show I < S; omega)).mono ?_
  rintro e w5 ⟨T, D, rfl, hS5, hT5, hD5, hT, hTD, hL5⟩
  have hL5' : Leaves (fun k => k = S) w4 w5 := hL5
  have hz := HSZ.out
  have hz2 := HSZ2.out
  have hFl := HF.out.lt
  have ho := HST.out.ord
  dsimp only at ho
  replace HST := Lib.hid (HST.out.leaves hL5' (fun k hk => .inl hk))
  replace HB : Hid (Below w.heap.size w w5) := Lib.hid (HB.out.trans (hL5'.below (fun k hk => by have hk' : k = S := hk; omega) HB.out.size))
  replace HP := Lib.hid (HP.out.leaves hL5' (by show ¬ Q = S; omega))
  replace HO := Lib.hid (HO.out.leaves hL5' (by show ¬ Q + 1 = S; omega))
  replace HPa := Lib.hid (HPa.out.of_block (hL5'.block B2 HPa.out.lt (by show ¬ B2 = S; omega)))
  replace HAm := Lib.hid (HAm.out.of_block (hL5'.block A HAm.out.lt (by show ¬ A = S; omega)))
  replace HI := Lib.hid (HI.out.leaves hL5' (by show ¬ I = S; omega))
  replace HF := Lib.hid (HF.out.leaves hL5' (by show ¬ F = S; omega))
  have HS5 : Hid (Has w5 S (secC T D) 234) := Lib.hid hS5
  have HT5 := Lib.hid hT5
  have HD5 := Lib.hid hD5
  have HTD : Hid (F < T ∧ T < D ∧ I < w5.heap.size) := Lib.hid ⟨by omega, hTD, HI.out.lt⟩
  clear hS5 hT5 hD5 hT hTD hL5 hL5' HSS HG gg ii hz hz2 hFl ho
  have ii : w5.cell? ⟨I, 0, none⟩ = some (.int .i64 0) := HI.out.cell 0
  have q1 : w5.cell? ⟨Q, 1, none⟩ = some (.slice (some ⟨g, 0, none⟩) 1 c') := HP.out.cell 1
  have g1 : w5.cell? ⟨g, 1, none⟩ = some (.int .i64 1) := HST.out.tr.box.cell 1
  have C1 : Hid (∀ w, Calls Tryz.prog 161 #[.int .i64 1] w fun e w' => e = .returned (.iface 338 (.agg #[])) ∧ w' = w) := Lib.hid fun w => (kindof_aw w).mono fun e w' h => ⟨h.1, h.2.symm⟩
  go_wp2_with fail
  refine wp_region_still_tail 11 (by kernel_rfl) (by kernel_rfl) ?_
  simp only [List.take_succ_cons, List.take_zero, List.drop_succ_cons, List.drop_zero]
  repeat (first | still_step | (refine wpStill_step (fun K hK => ?_); go_simp; (with_reducible refine ⟨_, C1.out _, hK _ ?_⟩); clear hK K))
  try refine wpStill_nil ?_
  change wpList _ _ _ _ _ w5.drew
  clear C1 q1 g1
  have hinv : ∀ w : World, Sem.run Tryz.prog (method 594 338 (.agg #[]) "treaty/programme.apply") w = .ok (375, .agg #[]) w := fun w => by kernel_rfl
  go_wp2_with fail
  clear hinv
  refine (sapply_aw ⟨B, g, b, c, c', l, cl, A, c1, C, c3, E, F, S⟩ I T D _ ?_ ?_ ?_ ?_ ?_ ?_ ?_ ?_ ?_).mono ?_
  · exact HST.out.leaves (Leaves.drew (Leaves.refl (fun k => k = S) _)) (fun k hk => .inl hk)
  · exact HS5.out.drew
  · exact HT5.out.drew
  · exact HD5.out.drew
  · exact HF.out.drew
  · exact ii
  · exact HTD.out.1
  · exact HTD.out.2.1
  · exact HTD.out.2.2
  rintro e w6 ⟨rfl, hF6, hD6, hL6⟩
  have hL6' : Leaves (fun k => k = F ∨ k = D) w5.drew w6 := hL6
  have hz := HSZ.out
  have hz2 := HSZ2.out
  have htd := HTD.out
  have ho := HST.out.ord
  dsimp only at ho
  have HDN : Hid (w.heap.size ≤ F ∧ w.heap.size ≤ D ∧ E < F ∧ F < T ∧ T < D) := Lib.hid (by omega)
  have HS6 : Hid (Has w6 S (secC T D) 234) := Lib.hid (HS5.out.drew.leaves hL6' (by show ¬ (S = F ∨ S = D); omega))
  have HT6 := Lib.hid (HT5.out.drew.leaves hL6' (by show ¬ (T = F ∨ T = D); omega))
  have HD6 := Lib.hid hD6
  have HF6 : Hid (Has w6 F #[.int .i64 50] 3) := Lib.hid hF6
  replace HB : Hid (Below w.heap.size w w6) := Lib.hid (HB.out.drew.trans (hL6'.below (fun k hk => by have hk' : k = F ∨ k = D := hk; omega) HB.out.size))
  replace HO := Lib.hid (HO.out.drew.leaves hL6' (by show ¬ (Q + 1 = F ∨ Q + 1 = D); omega))
  replace HPa := Lib.hid (HPa.out.of_block (w' := w6) (hL6'.block B2 HPa.out.lt (by show ¬ (B2 = F ∨ B2 = D); omega)))
  replace HAm := Lib.hid (HAm.out.of_block (w' := w6) (hL6'.block A HAm.out.lt (by show ¬ (A = F ∨ A = D); omega)))
  have HSB := Lib.hid (HST.out.st.drew.leaves hL6' (by show ¬ (B = F ∨ B = D); omega))
  have HSE := Lib.hid (HST.out.ced.drew.leaves hL6' (by show ¬ (E = F ∨ E = D); omega))
  have b7 : w6.cell? ⟨B, 7, none⟩ = some (.slice (some ⟨E, 0, none⟩) 1 1) := HSB.out.cell 7
  have b8 : w6.cell? ⟨B, 8, none⟩ = some (.slice (some ⟨S, 0, none⟩) 1 1) := HSB.out.cell 8
  have e0 : w6.cell? ⟨E, 0, none⟩ = some (.slice (some ⟨F, 0, none⟩) 1 1) := HSE.out.cell 0
  have f0 : w6.cell? ⟨F, 0, none⟩ = some (.int .i64 50) := HF6.out.cell 0
  have a0 : w6.cell? ⟨A, 0, none⟩ = some (.int .i64 100) := HAm.out.cell (by omega)
  have bl : B < w6.heap.size := HSB.out.lt
  have el : E < w6.heap.size := HSE.out.lt
  have fl : F < w6.heap.size := HF6.out.lt
  have al : A < w6.heap.size := HAm.out.lt
  clear hz hz2 htd ho hF6 hD6 hL6 hL6' HS5 HT5 HD5 HF HST HSB HSE HTD HI ii HP
  go_wp2_with fail
  rw [rounds_succ]
  have hmk := mk_int1
  go_wp2_with fail
  go_region
  · have hX : Has (((w6.alloc (.cells #[.int .i64 0] 3)).alloc (.cells #[.slice (some ⟨A, 0, none⟩) 1 c1, .slice (some ⟨B2, 0, none⟩) 1 c2, .slice (some ⟨S, 0, none⟩) 1 1, .slice (some ⟨w6.heap.size, 0, none⟩) 1 1] 168)).drew) (w6.heap.size + 1) (outC A c1 B2 c2 S w6.heap.size) 168 := (Has.new' _ _ _ _ (by simp)).drew
    have hK : Has (((w6.alloc (.cells #[.int .i64 0] 3)).alloc (.cells #[.slice (some ⟨A, 0, none⟩) 1 c1, .slice (some ⟨B2, 0, none⟩) 1 c2, .slice (some ⟨S, 0, none⟩) 1 1, .slice (some ⟨w6.heap.size, 0, none⟩) 1 1] 168)).drew) w6.heap.size #[.int .i64 0] 3 := ((Has.new _ _ _).alloc _).drew
    have hW : Below w6.heap.size w6 (((w6.alloc (.cells #[.int .i64 0] 3)).alloc (.cells #[.slice (some ⟨A, 0, none⟩) 1 c1, .slice (some ⟨B2, 0, none⟩) 1 c2, .slice (some ⟨S, 0, none⟩) 1 1, .slice (some ⟨w6.heap.size, 0, none⟩) 1 1] 168)).drew) := (by (repeat' (first | (with_reducible exact Below.refl _ _) | (with_reducible refine Below.setCell ?_ ?_ _) | (with_reducible refine below_drewN ?_ _) | (with_reducible refine Below.drew ?_) | (with_reducible refine Below.alloc ?_ ?_ _))) <;> (first | omega | (simp <;> omega)))
    have hne : ((w6.heap.size + 1) : Nat) ≠ w6.heap.size := by omega
    obtain ⟨W, hWe⟩ : ∃ W, ((w6.alloc (.cells #[.int .i64 0] 3)).alloc (.cells #[.slice (some ⟨A, 0, none⟩) 1 c1, .slice (some ⟨B2, 0, none⟩) 1 c2, .slice (some ⟨S, 0, none⟩) 1 1, .slice (some ⟨w6.heap.size, 0, none⟩) 1 1] 168)).drew = W := ⟨_, rfl⟩
    rw [hWe] at hX hK hW ⊢
    obtain ⟨X, hXe⟩ : ∃ X, (w6.heap.size + 1) = X := ⟨_, rfl⟩
    obtain ⟨K, hKe⟩ : ∃ X, w6.heap.size = X := ⟨_, rfl⟩
    rw [hXe] at hX hne ⊢
    rw [hKe] at hX hK hne ⊢
    have hKge : w6.heap.size ≤ K := by omega
    clear hWe hXe hKe
    have HX := Lib.hid hX
    have HK := Lib.hid hK
    have HKB : Hid (X < W.heap.size ∧ K < W.heap.size) := Lib.hid ⟨hX.lt, hK.lt⟩
    replace HB := Lib.hid (HB.out.trans (hW.mono HB.out.size))
    have b7' := (hW.cell (p := ⟨B, 7, none⟩) bl).trans b7
    have e0' := (hW.cell (p := ⟨E, 0, none⟩) el).trans e0
    have f0' := (hW.cell (p := ⟨F, 0, none⟩) fl).trans f0
    have a0' := (hW.cell (p := ⟨A, 0, none⟩) al).trans a0
    have HOut : Hid (W.cell? ⟨A, 0, none⟩ = some (.int .i64 100) ∧ W.cell? ⟨B2, 0, none⟩ = some (.int .i64 30) ∧ Has W S (secC T D) 234 ∧ Has W T #[.int .i64 100] 3 ∧ Has W D #[.int .i64 50] 3 ∧ A < W.heap.size ∧ B2 < W.heap.size) := Lib.hid
      ⟨a0', (hW.cell (p := ⟨B2, 0, none⟩) HPa.out.lt).trans (HPa.out.cell (by omega)), HS6.out.below hW HS6.out.lt, HT6.out.below hW HT6.out.lt, HD6.out.below hW HD6.out.lt, Nat.lt_of_lt_of_le HAm.out.lt hW.size, Nat.lt_of_lt_of_le HPa.out.lt hW.size⟩
    replace HO := Lib.hid (HO.out.below hW HO.out.lt)
    have HNK : Hid (A ≠ K ∧ B2 ≠ K ∧ S ≠ K ∧ T ≠ K ∧ D ≠ K ∧ Q + 1 ≠ K ∧ A ≠ Q + 1 ∧ B2 ≠ Q + 1 ∧ S ≠ Q + 1 ∧ T ≠ Q + 1 ∧ D ≠ Q + 1 ∧ K ≠ Q + 1 ∧ w.heap.size ≤ K ∧ w.heap.size ≤ Q + 1 ∧ (w.heap.size ≤ A ∧ w.heap.size ≤ B2 ∧ w.heap.size ≤ S ∧ w.heap.size ≤ T ∧ w.heap.size ≤ D ∧ w.heap.size ≤ K)) := Lib.hid (by
      have h1 := HAm.out.lt
      have h2 := HPa.out.lt
      have h3 := HS6.out.lt
      have h4 := HT6.out.lt
      have h5 := HD6.out.lt
      have h6 := HSZ.out
      have h7 := HSZ2.out
      have h8 := HDN.out
      omega)
    clear hKge b7 b8 e0 f0 a0 bl el fl al hX HS6 HT6 HD6 HPa HAm HF6 hmk
    obtain ⟨k0, kf, kl⟩ := hK.rules
    have k00 := k0 0
    have kf0 := kf 0
    have x3 : W.cell? ⟨X, 3, none⟩ = some (.slice (some ⟨K, 0, none⟩) 1 1) := HX.out.cell 3
    clear k0 kf hK hW
    go_wp2_with fail
    refine wp_loop_rounds 2 ?_
    rw [rounds_succ]
    go_wp2_with fail
    refine wp_loop_rounds 2 ?_
    rw [rounds_succ]
    go_wp2_with fail
    rw [rounds_succ]
    go_wp2_with fail
    have HZ : Hid (∀ Z, Z = W.setCell ⟨K, 0, none⟩ (.int .i64 50) → Has Z X (outC A c1 B2 c2 S K) 168 ∧ Has Z (Q + 1) #[.slice none 0 0, .slice none 0 0, .slice none 0 0, .slice none 0 0] 168 ∧ OutAt Z A B2 S T D K ∧ Below w.heap.size w Z) := Lib.hid (fun Z hZ => by
      obtain ⟨n1, n2, n3, n4, n5, n6, n7, n8, n9, n10, n11, n12, n13, n14, n15⟩ := HNK.out
      obtain ⟨o1, o2, o3, o4, o5, o6, o7⟩ := HOut.out
      subst hZ
      exact ⟨HX.out.far hne _, HO.out.far n6 _, ⟨(cell_far n1).trans o1, (cell_far n2).trans o2, o3.far n3 _, o4.far n4 _, o5.far n5 _, HK.out.put 0 _, by simpa using o6, by simpa using o7⟩, HB.out.setCell (p := ⟨K, 0, none⟩) n13 _⟩)
    obtain ⟨Z, hZe⟩ : ∃ Z, W.setCell ⟨K, 0, none⟩ (.int .i64 50) = Z := ⟨_, rfl⟩
    obtain ⟨z1, z2, z3, z4⟩ := HZ.out Z hZe.symm
    rw [hZe]
    have HX2 := Lib.hid z1
    have HO2 := Lib.hid z2
    have HA2 := Lib.hid z3
    have HB2 := Lib.hid z4
    have HOI : Hid _ := Lib.hid (out_info (A := A) (c1 := c1) (B := B2) (c2 := c2) (S := S) (K := K))
    clear hZe z1 z2 z3 z4 HZ HX HO HK HB HOut x3 k00 kf0 kl b7' e0' f0' a0'
    rw [rounds_succ]
    go_wp2_with (first
      | (refine wpList_load_has ?_ 168 (.tmp 18) ?_ X ?_ _ (outC A c1 B2 c2 S K) _ HX2.out Tryz.underlying168 ?_ HOI.out ?_; rfl; rfl; rfl; rfl)
      | (refine wpList_store_has ?_ 168 (.tmp 6) (.tmp 145) ?_ (Q + 1) ?_ (outC A c1 B2 c2 S K) ?_ _ _ HO2.out HOI.out ?_ ?_ ?_; rfl; rfl; rfl; rfl; rfl; rfl; intro w8 hh hl))
    refine bodyPost_ret (results_cell_tmp rfl _ _ (Q + 1) _ (outC A c1 B2 c2 S K) _ _ (.int .i64 0) ?_ ?_ hh Tryz.underlying168 rfl out_info) rfl ?_
    · rfl
    · rfl
    · obtain ⟨n1, n2, n3, n4, n5, n6, n7, n8, n9, n10, n11, n12, n13, n14, n15⟩ := HNK.out
      obtain ⟨o1, o2, o3, o4, o5, o6, o7, o8⟩ := HA2.out
      refine ⟨A, c1, B2, c2, S, T, D, K, rfl, ⟨?_, ?_, o3.leaves hl n9, o4.leaves hl n10, o5.leaves hl n11, o6.leaves hl n12, Nat.lt_of_lt_of_le o7 hl.size, Nat.lt_of_lt_of_le o8 hl.size⟩, n15, HB2.out.trans (hl.below (fun k hk => by have hk' : k = Q + 1 := hk; omega) HB2.out.size)⟩
      · unfold World.cell?
        rw [show w8.heap[A]? = Z.heap[A]? from hl.block A o7 n7]
        exact o1
      · unfold World.cell?
        rw [show w8.heap[B2]? = Z.heap[B2]? from hl.block B2 o8 n8]
        exact o2
  · have hX : Has (((w6.alloc (.cells #[.slice (some ⟨A, 0, none⟩) 1 c1, .slice (some ⟨B2, 0, none⟩) 1 c2, .slice (some ⟨S, 0, none⟩) 1 1, .slice (some ⟨w6.heap.size + 1, 0, none⟩) 1 1] 168)).alloc (.cells #[.int .i64 0] 3)).drew) w6.heap.size (outC A c1 B2 c2 S (w6.heap.size + 1)) 168 := ((Has.new _ _ _).alloc _).drew
    have hK : Has (((w6.alloc (.cells #[.slice (some ⟨A, 0, none⟩) 1 c1, .slice (some ⟨B2, 0, none⟩) 1 c2, .slice (some ⟨S, 0, none⟩) 1 1, .slice (some ⟨w6.heap.size + 1, 0, none⟩) 1 1] 168)).alloc (.cells #[.int .i64 0] 3)).drew) (w6.heap.size + 1) #[.int .i64 0] 3 := (Has.new' _ _ _ _ (by simp)).drew
    have hW : Below w6.heap.size w6 (((w6.alloc (.cells #[.slice (some ⟨A, 0, none⟩) 1 c1, .slice (some ⟨B2, 0, none⟩) 1 c2, .slice (some ⟨S, 0, none⟩) 1 1, .slice (some ⟨w6.heap.size + 1, 0, none⟩) 1 1] 168)).alloc (.cells #[.int .i64 0] 3)).drew) := (by (repeat' (first | (with_reducible exact Below.refl _ _) | (with_reducible refine Below.setCell ?_ ?_ _) | (with_reducible refine below_drewN ?_ _) | (with_reducible refine Below.drew ?_) | (with_reducible refine Below.alloc ?_ ?_ _))) <;> (first | omega | (simp <;> omega)))
    have hne : (w6.heap.size : Nat) ≠ (w6.heap.size + 1) := by omega
    obtain ⟨W, hWe⟩ : ∃ W, ((w6.alloc (.cells #[.slice (some ⟨A, 0, none⟩) 1 c1, .slice (some ⟨B2, 0, none⟩) 1 c2, .slice (some ⟨S, 0, none⟩) 1 1, .slice (some ⟨w6.heap.size + 1, 0, none⟩) 1 1] 168)).alloc (.cells #[.int .i64 0] 3)).drew = W := ⟨_, rfl⟩
    rw [hWe] at hX hK hW ⊢
    obtain ⟨X, hXe⟩ : ∃ X, w6.heap.size = X := ⟨_, rfl⟩
    obtain ⟨K, hKe⟩ : ∃ X, (w6.heap.size + 1) = X := ⟨_, rfl⟩
    rw [hKe] at hX hK hne ⊢
    rw [hXe] at hX hne ⊢
    have hKge : w6.heap.size ≤ K := by omega
    clear hWe hXe hKe
    have HX := Lib.hid hX
    have HK := Lib.hid hK
    have HKB : Hid (X < W.heap.size ∧ K < W.heap.size) := Lib.hid ⟨hX.lt, hK.lt⟩
    replace HB := Lib.hid (HB.out.trans (hW.mono HB.out.size))
    have b7' := (hW.cell (p := ⟨B, 7, none⟩) bl).trans b7
    have e0' := (hW.cell (p := ⟨E, 0, none⟩) el).trans e0
    have f0' := (hW.cell (p := ⟨F, 0, none⟩) fl).trans f0
    have a0' := (hW.cell (p := ⟨A, 0, none⟩) al).trans a0
    have HOut : Hid (W.cell? ⟨A, 0, none⟩ = some (.int .i64 100) ∧ W.cell? ⟨B2, 0, none⟩ = some (.int .i64 30) ∧ Has W S (secC T D) 234 ∧ Has W T #[.int .i64 100] 3 ∧ Has W D #[.int .i64 50] 3 ∧ A < W.heap.size ∧ B2 < W.heap.size) := Lib.hid
      ⟨a0', (hW.cell (p := ⟨B2, 0, none⟩) HPa.out.lt).trans (HPa.out.cell (by omega)), HS6.out.below hW HS6.out.lt, HT6.out.below hW HT6.out.lt, HD6.out.below hW HD6.out.lt, Nat.lt_of_lt_of_le HAm.out.lt hW.size, Nat.lt_of_lt_of_le HPa.out.lt hW.size⟩
    replace HO := Lib.hid (HO.out.below hW HO.out.lt)
    have HNK : Hid (A ≠ K ∧ B2 ≠ K ∧ S ≠ K ∧ T ≠ K ∧ D ≠ K ∧ Q + 1 ≠ K ∧ A ≠ Q + 1 ∧ B2 ≠ Q + 1 ∧ S ≠ Q + 1 ∧ T ≠ Q + 1 ∧ D ≠ Q + 1 ∧ K ≠ Q + 1 ∧ w.heap.size ≤ K ∧ w.heap.size ≤ Q + 1 ∧ (w.heap.size ≤ A ∧ w.heap.size ≤ B2 ∧ w.heap.size ≤ S ∧ w.heap.size ≤ T ∧ w.heap.size ≤ D ∧ w.heap.size ≤ K)) := Lib.hid (by
      have h1 := HAm.out.lt
      have h2 := HPa.out.lt
      have h3 := HS6.out.lt
      have h4 := HT6.out.lt
      have h5 := HD6.out.lt
      have h6 := HSZ.out
      have h7 := HSZ2.out
      have h8 := HDN.out
      omega)
    clear hKge b7 b8 e0 f0 a0 bl el fl al hX HS6 HT6 HD6 HPa HAm HF6 hmk
    obtain ⟨k0, kf, kl⟩ := hK.rules
    have k00 := k0 0
    have kf0 := kf 0
    have x3 : W.cell? ⟨X, 3, none⟩ = some (.slice (some ⟨K, 0, none⟩) 1 1) := HX.out.cell 3
    clear k0 kf hK hW
    go_wp2_with fail
    refine wp_loop_rounds 2 ?_
    rw [rounds_succ]
    go_wp2_with fail
    refine wp_loop_rounds 2 ?_
    rw [rounds_succ]
    go_wp2_with fail
    rw [rounds_succ]
    go_wp2_with fail
    have HZ : Hid (∀ Z, Z = W.setCell ⟨K, 0, none⟩ (.int .i64 50) → Has Z X (outC A c1 B2 c2 S K) 168 ∧ Has Z (Q + 1) #[.slice none 0 0, .slice none 0 0, .slice none 0 0, .slice none 0 0] 168 ∧ OutAt Z A B2 S T D K ∧ Below w.heap.size w Z) := Lib.hid (fun Z hZ => by
      obtain ⟨n1, n2, n3, n4, n5, n6, n7, n8, n9, n10, n11, n12, n13, n14, n15⟩ := HNK.out
      obtain ⟨o1, o2, o3, o4, o5, o6, o7⟩ := HOut.out
      subst hZ
      exact ⟨HX.out.far hne _, HO.out.far n6 _, ⟨(cell_far n1).trans o1, (cell_far n2).trans o2, o3.far n3 _, o4.far n4 _, o5.far n5 _, HK.out.put 0 _, by simpa using o6, by simpa using o7⟩, HB.out.setCell (p := ⟨K, 0, none⟩) n13 _⟩)
    obtain ⟨Z, hZe⟩ : ∃ Z, W.setCell ⟨K, 0, none⟩ (.int .i64 50) = Z := ⟨_, rfl⟩
    obtain ⟨z1, z2, z3, z4⟩ := HZ.out Z hZe.symm
    rw [hZe]
    have HX2 := Lib.hid z1
    have HO2 := Lib.hid z2
    have HA2 := Lib.hid z3
    have HB2 := Lib.hid z4
    have HOI : Hid _ := Lib.hid (out_info (A := A) (c1 := c1) (B := B2) (c2 := c2) (S := S) (K := K))
    clear hZe z1 z2 z3 z4 HZ HX HO HK HB HOut x3 k00 kf0 kl b7' e0' f0' a0'
    rw [rounds_succ]
    go_wp2_with (first
      | (refine wpList_load_has ?_ 168 (.tmp 18) ?_ X ?_ _ (outC A c1 B2 c2 S K) _ HX2.out Tryz.underlying168 ?_ HOI.out ?_; rfl; rfl; rfl; rfl)
      | (refine wpList_store_has ?_ 168 (.tmp 6) (.tmp 145) ?_ (Q + 1) ?_ (outC A c1 B2 c2 S K) ?_ _ _ HO2.out HOI.out ?_ ?_ ?_; rfl; rfl; rfl; rfl; rfl; rfl; intro w8 hh hl))
    refine bodyPost_ret (results_cell_tmp rfl _ _ (Q + 1) _ (outC A c1 B2 c2 S K) _ _ (.int .i64 0) ?_ ?_ hh Tryz.underlying168 rfl out_info) rfl ?_
    · rfl
    · rfl
    · obtain ⟨n1, n2, n3, n4, n5, n6, n7, n8, n9, n10, n11, n12, n13, n14, n15⟩ := HNK.out
      obtain ⟨o1, o2, o3, o4, o5, o6, o7, o8⟩ := HA2.out
      refine ⟨A, c1, B2, c2, S, T, D, K, rfl, ⟨?_, ?_, o3.leaves hl n9, o4.leaves hl n10, o5.leaves hl n11, o6.leaves hl n12, Nat.lt_of_lt_of_le o7 hl.size, Nat.lt_of_lt_of_le o8 hl.size⟩, n15, HB2.out.trans (hl.below (fun k hk => by have hk' : k = Q + 1 := hk; omega) HB2.out.size)⟩
      · unfold World.cell?
        rw [show w8.heap[A]? = Z.heap[A]? from hl.block A o7 n7]
        exact o1
      · unfold World.cell?
        rw [show w8.heap[B2]? = Z.heap[B2]? from hl.block B2 o8 n8]
        exact o2

set_option maxRecDepth 100000 in
set_option maxHeartbeats 1000000 in
theorem evaluate_aw (g b c c' l cl : Nat) (w : World) (h : TrAt w g b c) (hl : LossAt w l) (hgb : g < w.heap.size ∧ b < w.heap.size ∧ l < w.heap.size) : Calls Tryz.prog 91 #[.agg (awP g c'), .slice (some ⟨l, 0, none⟩) 1 cl] w
    fun e w' => ∃ A c1 B2 c2 S T D K, e = .returned (.tuple #[.agg (outC A c1 B2 c2 S K), .int .i64 0]) ∧ OutAt w' A B2 S T D K ∧ (w.heap.size ≤ A ∧ w.heap.size ≤ B2 ∧ w.heap.size ≤ S ∧ w.heap.size ≤ T ∧ w.heap.size ≤ D ∧ w.heap.size ≤ K) ∧ Below w.heap.size w w' := by
  have HT := Lib.hid h
  have HL := Lib.hid hl
  have HG := Lib.hid hgb
  have HPI := Lib.hid (prog_info g c')
  have HP := Lib.hid ((Has.new w (awP g c') 59).alloc (.cells #[.slice none 0 0, .slice none 0 0, .slice none 0 0, .slice none 0 0] 168))
  have HO := Lib.hid (Has.new' (w.alloc (.cells (awP g c') 59)) (w.heap.size + 1) #[.slice none 0 0, .slice none 0 0, .slice none 0 0, .slice none 0 0] 168 (by simp))
  clear h hl hgb
  go_enter Tryz.func91, Tryz.ntmps91
  go_wp2_with (refine wpList_load_has ?_ 59 (.tmp 2) ?_ w.heap.size ?_ _ (awP g c') _ HP.out Tryz.underlying59 ?_ HPI.out ?_; rfl; rfl; rfl; rfl)
  have hb0 : Below w.heap.size w ((w.alloc (.cells (awP g c') 59)).alloc (.cells #[.slice none 0 0, .slice none 0 0, .slice none 0 0, .slice none 0 0] 168)) := (by (repeat' (first | (with_reducible exact Below.refl _ _) | (with_reducible refine Below.setCell ?_ ?_ _) | (with_reducible refine below_drewN ?_ _) | (with_reducible refine Below.drew ?_) | (with_reducible refine Below.alloc ?_ ?_ _))) <;> (first | omega | (simp <;> omega)))
  refine (prun_aw g b c c' l cl _ (HT.out.later hb0) (HL.out.below hb0 HL.out.lt) (by have := HG.out; simp; omega)).mono ?_
  rintro e w1 ⟨A, c1, B2, c2, S, T, D, K, rfl, ho, hn, hb⟩
  replace HO := Lib.hid (HO.out.below hb (by simp))
  have HB := Lib.hid (hb0.trans (hb.mono hb0.size))
  have HA := Lib.hid ho
  have HN : Hid (w.heap.size + 1 < A ∧ w.heap.size + 1 < B2 ∧ w.heap.size + 1 < S ∧ w.heap.size + 1 < T ∧ w.heap.size + 1 < D ∧ w.heap.size + 1 < K) := Lib.hid (by
    simp at hn
    omega)
  have HOI : Hid _ := Lib.hid (out_info (A := A) (c1 := c1) (B := B2) (c2 := c2) (S := S) (K := K))
  clear hb hb0 ho hn HP HT HL
  go_wp2_with (refine wpList_store_has ?_ 168 (.tmp 4) (.tmp 9) ?_ (w.heap.size + 1) ?_ (outC A c1 B2 c2 S K) ?_ _ _ HO.out HOI.out ?_ ?_ ?_; rfl; rfl; rfl; rfl; rfl; rfl; intro w8 hh hl)
  refine bodyPost_ret (results_cell_tmp rfl _ _ (w.heap.size + 1) _ (outC A c1 B2 c2 S K) _ _ (.int .i64 0) ?_ ?_ hh Tryz.underlying168 rfl out_info) rfl ?_
  · rfl
  · rfl
  · obtain ⟨o1, o2, o3, o4, o5, o6, o7, o8⟩ := HA.out
    obtain ⟨n1, n2, n3, n4, n5, n6⟩ := HN.out
    refine ⟨A, c1, B2, c2, S, T, D, K, rfl, ⟨(cell_leaves hl o7 ?_).trans o1, (cell_leaves hl o8 ?_).trans o2, o3.leaves hl ?_, o4.leaves hl ?_, o5.leaves hl ?_, o6.leaves hl ?_, Nat.lt_of_lt_of_le o7 hl.size, Nat.lt_of_lt_of_le o8 hl.size⟩, by omega, HB.out.trans (hl.below (fun k hk => by have hk' : k = w.heap.size + 1 := hk; omega) HB.out.size)⟩ <;> (intro hc; replace hc : _ = w.heap.size + 1 := hc; omega)
end Go.Proofs.YtbeikfopneeodaaGreat
