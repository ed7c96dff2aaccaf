/- The example of the offices: programme.Amounts. programme: the state of a run at the example; cede, begin. -/
import Derived.Test.YtbeikfopneeodaaGreatMt12
import Derived.Test.YtbeikfopneeodaaGreatMt15
import Derived.Test.YtbeikfopneeodaaGreatMt18
namespace Go.Proofs.YtbeikfopneeodaaGreat
open Go.RowKit
set_option linter.unusedVariables false

theorem results_tmp4 {P : Program} {fn : Func} {p q r s : Tmp} (h : fn.results = #[.tmp p, .tmp q, .tmp r, .tmp s]) (tmps : Array Value) (w : World) :
    (results fn tmps).run P w = .ok (.tuple #[tmps.getD p undef, tmps.getD q undef, tmps.getD r undef, tmps.getD s undef]) w := by
  simp [results, h, go_sem]

set_option maxRecDepth 100000 in
set_option maxHeartbeats 2000000 in
theorem amounts_aw (g b c c' l cl : Nat) (w : World) (h : TrAt w g b c) (hl : LossAt w l) : Calls Tryz.prog 131 #[.agg (awP g c'), .slice (some ⟨l, 0, none⟩) 1 cl] w
    fun e w' => ∃ A B C c1 c2 c3, e = .returned (.tuple #[.slice (some ⟨A, 0, none⟩) 1 c1, .slice (some ⟨B, 0, none⟩) 1 c2, .slice (some ⟨C, 0, none⟩) 1 c3, .int .i64 0]) ∧
      Own w' w.heap.size A 1 c1 1 3 (fun _ => .int .i64 100) ∧ Own w' w.heap.size B 1 c2 1 3 (fun _ => .int .i64 30) ∧ Own w' w.heap.size C 1 c3 1 3 (fun _ => .int .i64 0) ∧ Below w.heap.size w w' := by
  have HT := Lib.hid h
  have HL := Lib.hid hl
  have HLI := Lib.hid loss_info'
  have HPI := Lib.hid (prog_info g c')
  have HP := Lib.hid (Has.new w (awP g c') 59)
  clear h hl
  have HAP : Hid (awP g c' = #[.int .i64 0, .slice (some ⟨g, 0, none⟩) 1 c', .slice none 0 0, .slice none 0 0]) := Lib.hid rfl
  go_enter Tryz.func131, Tryz.ntmps131
  go_wp2_with (refine wpList_load_has ?_ 59 (.tmp 2) ?_ w.heap.size ?_ _ (awP g c') _ HP.out Tryz.underlying59 ?_ HPI.out ?_; rfl; rfl; rfl; rfl)
  refine (pvalid_aw g b c c' _ (HT.out.later (by (repeat' (first | (with_reducible exact Below.refl _ _) | (with_reducible refine Below.setCell ?_ ?_ _) | (with_reducible refine below_drewN ?_ _) | (with_reducible refine Below.drew ?_) | (with_reducible refine Below.alloc ?_ ?_ _))) <;> (first | omega | (simp <;> omega))))).mono ?_
  rintro e w1 ⟨rfl, hb⟩
  have hb0 : Below w.heap.size w w1 := Below.trans (b := w.alloc (.cells (awP g c') 59)) (by (repeat' (first | (with_reducible exact Below.refl _ _) | (with_reducible refine Below.setCell ?_ ?_ _) | (with_reducible refine below_drewN ?_ _) | (with_reducible refine Below.drew ?_) | (with_reducible refine Below.alloc ?_ ?_ _))) <;> (first | omega | (simp <;> omega))) (hb.mono (by simp))
  have HB := Lib.hid hb0
  replace HT := Lib.hid (HT.out.later hb0)
  replace HP := Lib.hid (HP.out.below hb (by simp))
  replace HL := Lib.hid (HL.out.below hb0 HL.out.lt)
  obtain ⟨Q, hQ⟩ : ∃ Q, w.heap.size = Q := ⟨_, rfl⟩
  rw [hQ] at HP
  rw [hQ]
  have HQ := Lib.hid hQ
  clear hb hb0 hQ
  go_wp2_with fail
  refine wp_loop_rounds 2 ?_
  rw [rounds_succ]
  have hs1 := HB.out.size
  go_wp2_with (first
    | (refine wpList_load_loss ?_ (.tmp 26) ?_ l ?_ HL.out ?_; rfl; rfl; rfl)
    | (refine wpList_store_has ?_ 72 (.tmp 10) (.tmp 27) ?_ w1.heap.size ?_ lossC ?_ _ _ (Has.new w1 zeroL _) HLI.out ?_ ?_ ?_; rfl; rfl; rfl; rfl; rfl; rfl; intro w2 hh hl)
    | (refine wpList_load_has ?_ 72 (.tmp 10) ?_ w1.heap.size ?_ _ lossC _ hh Tryz.underlying72 ?_ HLI.out ?_; rfl; rfl; rfl; rfl))
  refine (pvalidloss_aw w2).mono ?_
  rintro e w3 ⟨rfl, hb⟩
  have hb2 : Below w1.heap.size w1 w3 := (Below.trans (b := w1.alloc (.cells zeroL 72)) (by (repeat' (first | (with_reducible exact Below.refl _ _) | (with_reducible refine Below.setCell ?_ ?_ _) | (with_reducible refine below_drewN ?_ _) | (with_reducible refine Below.drew ?_) | (with_reducible refine Below.alloc ?_ ?_ _))) <;> (first | omega | (simp <;> omega))) (hl.below (fun k hk => by omega) (by simp))).trans (hb.mono (by have := hl.size; simp at this; omega))
  have HLX := Lib.hid (hh.below hb hh.lt)
  replace HB := Lib.hid (HB.out.trans (hb2.mono hs1))
  replace HP := Lib.hid (HP.out.below hb2 HP.out.lt)
  obtain ⟨X, hX⟩ : ∃ X, w1.heap.size = X := ⟨_, rfl⟩
  rw [hX] at HLX
  rw [hX]
  clear hb hb2 hh hl hX hs1
  go_wp2_with fail
  go_quiet (fail)
  replace HB := Lib.hid (below_drewN HB.out nq)
  replace HP := Lib.hid (HP.out.drewN nq)
  replace HLX := Lib.hid (HLX.out.drewN nq)
  obtain ⟨w4, hw4⟩ : ∃ W, w3.drewN nq = W := ⟨_, rfl⟩
  rw [hw4] at HB HP HLX ⊢
  clear hw4
  go_wp2_with (first
    | (refine wpList_load_has ?_ 59 (.tmp 2) ?_ Q ?_ _ (awP g c') _ HP.out Tryz.underlying59 ?_ HPI.out ?_; rfl; rfl; rfl; rfl)
    | (refine wpList_load_has ?_ 72 (.tmp 10) ?_ X ?_ _ lossC _ HLX.out Tryz.underlying72 ?_ HLI.out ?_; rfl; rfl; rfl; rfl))
  refine (pconvert_aw g c' w4).mono ?_
  rintro e w5 ⟨rfl, hb⟩
  replace HB := Lib.hid (HB.out.trans (hb.mono HB.out.size))
  have hsz := HB.out.size
  clear hb HP HLX HL HT
  obtain ⟨i0, hi0, hz0, hz1, hz2⟩ := info_parts i64_info
  have HI := Lib.hid hi0
  have HZ0 := Lib.hid hz0
  have HZ1 := Lib.hid hz1
  have HZ2 := Lib.hid hz2
  clear hi0 hz0 hz1 hz2
  go_upto_region 16 with (fail)
  have HV := Lib.hid (Has.new w5 #[.int .i64 100, .int .i64 30, .int .i64 0] 301)
  replace HB : Hid (Below w.heap.size w (w5.alloc (.cells #[.int .i64 100, .int .i64 30, .int .i64 0] 301))) := Lib.hid (HB.out.alloc hsz _)
  obtain ⟨V, hV⟩ : ∃ V, w5.heap.size = V := ⟨_, rfl⟩
  obtain ⟨w6, hw6⟩ : ∃ W, w5.alloc (.cells #[.int .i64 100, .int .i64 30, .int .i64 0] 301) = W := ⟨_, rfl⟩
  rw [hw6] at HB HV ⊢
  rw [hV] at HV
  rw [hV]
  clear hw6 hV hsz
  have hs6 := HB.out.size
  obtain ⟨v0, v1, v2⟩ := HV.out.rules
  go_upto_region 17 with ((at_builtin; refine wpList_append_lies _ rfl _ _ 22 rfl w.heap.size 3 i0 _ 1 8 Tryz.underlying22 HI.out HZ0.out HZ1.out HZ2.out rfl (by omega) _ 0 [] rfl (own_nil _ _ _ _) ⟨w6.heap.size, 0, none⟩ 1 1 [.int .i64 100] rfl rfl (World.news_of_block (cs := #[.int .i64 100]) (t := 3) (fr := (0, 0)) (heap_alloc_new w6 _)) (by simp [Value.oneCell']) (by omega) (by unfold maxLen; omega) (by omega) (by simp; omega) (w6.heap.size + 1) (by simp) ?_; intro A c1 w7 hown hgrow hat hlt; clear hat hlt))
  have hb := below_app hgrow
  have HA := Lib.hid (Own.one hown)
  replace HB := Lib.hid (HB.out.trans (hb.mono hs6))
  replace HV := Lib.hid (HV.out.below hb HV.out.lt)
  clear hb hown hgrow v0 v1 v2 hs6
  have hs7 := HB.out.size
  obtain ⟨v0, v1, v2⟩ := HV.out.rules
  go_upto_region 18 with ((at_builtin; refine wpList_append_lies _ rfl _ _ 22 rfl w.heap.size 3 i0 _ 1 8 Tryz.underlying22 HI.out HZ0.out HZ1.out HZ2.out rfl (by omega) _ 0 [] rfl (own_nil _ _ _ _) ⟨w7.heap.size, 0, none⟩ 1 1 [.int .i64 30] rfl rfl (World.news_of_block (cs := #[.int .i64 30]) (t := 3) (fr := (0, 0)) (heap_alloc_new w7 _)) (by simp [Value.oneCell']) (by omega) (by unfold maxLen; omega) (by omega) (by simp; omega) (w7.heap.size + 1) (by simp) ?_; intro B c2 w8 hown hgrow hat hlt; clear hat hlt))
  have hb := below_app hgrow
  have HB2 := Lib.hid (Own.one hown)
  replace HB := Lib.hid (HB.out.trans (hb.mono hs7))
  replace HV := Lib.hid (HV.out.below hb HV.out.lt)
  replace HA := Lib.hid (HA.out.below hb HA.out.lt)
  clear hb hown hgrow v0 v1 v2 hs7
  have hs8 := HB.out.size
  obtain ⟨v0, v1, v2⟩ := HV.out.rules
  go_upto_region 19 with ((at_builtin; refine wpList_append_lies _ rfl _ _ 22 rfl w.heap.size 3 i0 _ 1 8 Tryz.underlying22 HI.out HZ0.out HZ1.out HZ2.out rfl (by omega) _ 0 [] rfl (own_nil _ _ _ _) ⟨w8.heap.size, 0, none⟩ 1 1 [.int .i64 0] rfl rfl (World.news_of_block (cs := #[.int .i64 0]) (t := 3) (fr := (0, 0)) (heap_alloc_new w8 _)) (by simp [Value.oneCell']) (by omega) (by unfold maxLen; omega) (by omega) (by simp; omega) (w8.heap.size + 1) (by simp) ?_; intro C c3 w9 hown hgrow hat hlt; clear hat hlt))
  have hb := below_app hgrow
  have HB3 := Lib.hid (Own.one hown)
  replace HB := Lib.hid (HB.out.trans (hb.mono hs8))
  replace HA := Lib.hid (HA.out.below hb HA.out.lt)
  replace HB2 := Lib.hid (HB2.out.below hb HB2.out.lt)
  clear hb hown hgrow v0 v1 v2 hs8 HV
  go_wp2_with fail
  rw [rounds_succ]
  go_wp2_with fail
  refine bodyPost_ret (results_tmp4 rfl _ _) rfl ?_
  exact ⟨A, B, C, c1, c2, c3, rfl, HA.out, HB2.out, HB3.out, HB.out⟩
end Go.Proofs.YtbeikfopneeodaaGreat
namespace Go.Proofs.YtbeikfopneeodaaGreat
open Go.RowKit
set_option linter.unusedVariables false

/-- where the parts of a run's state lie -/
structure Pl where
  (B g b c c' l cl A c1 C c3 E F S : Nat)
/-- the cells of the state -/
def Pl.st (p : Pl) : Array Value := #[.int .i64 0, .slice (some ⟨p.g, 0, none⟩) 1 p.c', .slice none 0 0, .slice none 0 0, .slice (some ⟨p.l, 0, none⟩) 1 p.cl, .slice (some ⟨p.A, 0, none⟩) 1 p.c1, .slice (some ⟨p.C, 0, none⟩) 1 p.c3,
  .slice (some ⟨p.E, 0, none⟩) 1 1, .slice (some ⟨p.S, 0, none⟩) 1 1, .func (.func 129) #[] #[]]
/-- the state lies there -/
structure StAt (w : World) (p : Pl) : Prop where
  tr : TrAt w p.g p.b p.c
  st : Has w p.B p.st 277
  loss : LossAt w p.l
  am : w.cell? ⟨p.A, 0, none⟩ = some (.int .i64 100)
  su : w.cell? ⟨p.C, 0, none⟩ = some (.int .i64 0)
  ced : Has w p.E #[.slice (some ⟨p.F, 0, none⟩) 1 1] 22
  lt : p.F < w.heap.size
  ord : p.g < p.B ∧ p.b < p.B ∧ p.l < p.B ∧ p.A < p.B ∧ p.C < p.B ∧ p.B < p.S ∧ p.S < p.E ∧ p.E < p.F
theorem StAt.leaves {w w' : World} {p : Pl} {T : Nat → Prop} (h : StAt w p) (hl : Leaves T w w') (hT : ∀ k, T k → k = p.S ∨ p.F ≤ k) : StAt w' p := by
  obtain ⟨o1, o2, o3, o4, o5, o6, o7, o8⟩ := h.ord
  have no : ∀ k, k ≠ p.S → k < p.F → ¬ T k := fun k h1 h2 hc => by
    rcases hT k hc with e | e
    · exact h1 e
    · omega
  have hlt := h.lt
  have hc : ∀ k j, k ≠ p.S → k < p.F → w'.cell? ⟨k, j, none⟩ = w.cell? ⟨k, j, none⟩ := fun k j h1 h2 => by
    unfold World.cell?
    rw [show w'.heap[k]? = w.heap[k]? from hl.block k (by omega) (no k h1 h2)]
  exact ⟨⟨h.tr.box.leaves hl (no _ (by omega) (by omega)), h.tr.part.leaves hl (fun ad e => by injection e with e; subst e; exact no _ (by show p.b ≠ p.S; omega) (by show p.b < p.F; omega))⟩,
    h.st.leaves hl (no _ (by omega) (by omega)), h.loss.leaves hl (no _ (by omega) (by omega)), by rw [hc _ _ (by omega) (by omega)]; exact h.am, by rw [hc _ _ (by omega) (by omega)]; exact h.su,
    h.ced.leaves hl (no _ (by omega) (by omega)), Nat.lt_of_lt_of_le hlt hl.size, h.ord⟩
theorem StAt.below {w w' : World} {p : Pl} (h : StAt w p) (hb : Below w.heap.size w w') : StAt w' p := by
  refine h.leaves (T := fun _ => False) ⟨hb.os, hb.tape, hb.output, hb.size, fun k hk _ => hb.block k hk⟩ (fun k hk => hk.elim)
/-- the cells that the walks read -/
theorem StAt.cells {w : World} {p : Pl} (h : StAt w p) : w.cell? ⟨p.B, 1, none⟩ = some (.slice (some ⟨p.g, 0, none⟩) 1 p.c') ∧ w.cell? ⟨p.B, 4, none⟩ = some (.slice (some ⟨p.l, 0, none⟩) 1 p.cl) ∧ w.cell? ⟨p.B, 5, none⟩ = some (.slice (some ⟨p.A, 0, none⟩) 1 p.c1) ∧
    w.cell? ⟨p.B, 6, none⟩ = some (.slice (some ⟨p.C, 0, none⟩) 1 p.c3) ∧ w.cell? ⟨p.B, 7, none⟩ = some (.slice (some ⟨p.E, 0, none⟩) 1 1) ∧ w.cell? ⟨p.B, 8, none⟩ = some (.slice (some ⟨p.S, 0, none⟩) 1 1) ∧ w.cell? ⟨p.E, 0, none⟩ = some (.slice (some ⟨p.F, 0, none⟩) 1 1) :=
  ⟨h.st.cell 1, h.st.cell 4, h.st.cell 5, h.st.cell 6, h.st.cell 7, h.st.cell 8, h.ced.cell 0⟩

/-- a section that has been opened -/
def secC (T D : Nat) : Array Value := #[.int .i64 1, .slice (some ⟨T, 0, none⟩) 1 1, .slice (some ⟨D, 0, none⟩) 1 1, .slice none 0 0, .slice none 0 0]

set_option maxRecDepth 100000 in
set_option maxHeartbeats 1000000 in
theorem scede_aw (p : Pl) (T D : Nat) (x y v : Int) (w : World) (h : StAt w p) (hS : Has w p.S (secC T D) 234) (hF : Has w p.F #[.int .i64 x] 3) (hD : Has w D #[.int .i64 y] 3) (hn : p.F < D) :
    Calls Tryz.prog 347 #[.pointer (some ⟨p.B, 0, none⟩), .int .i64 0, .int .i64 0, .int .i64 v] w fun e w' => e = .returned (.tuple #[]) ∧ w' = (w.setCell ⟨D, 0, none⟩ (.int .i64 v)).setCell ⟨p.F, 0, none⟩ (.int .i64 v) := by
  obtain ⟨x1, x4, x5, x6, x7, x8, xe⟩ := h.cells
  obtain ⟨o1, o2, o3, o4, o5, o6, o7, o8⟩ := h.ord
  have s2 : w.cell? ⟨p.S, 2, none⟩ = some (.slice (some ⟨D, 0, none⟩) 1 1) := hS.cell 2
  obtain ⟨d0, d1, d2⟩ := hD.rules
  obtain ⟨f0, f1, f2⟩ := hF.rules
  have n1 : p.B ≠ D := by omega
  have n2 : p.E ≠ D := by omega
  have n3 : p.F ≠ D := by omega
  obtain ⟨B, hB⟩ : ∃ B, p.B = B := ⟨_, rfl⟩
  obtain ⟨E, hE⟩ : ∃ B, p.E = B := ⟨_, rfl⟩
  obtain ⟨F, hF⟩ : ∃ B, p.F = B := ⟨_, rfl⟩
  obtain ⟨S, hS⟩ : ∃ B, p.S = B := ⟨_, rfl⟩
  rw [hB] at x1 x4 x5 x6 x7 x8 n1
  rw [hE] at xe x7 n2
  rw [hF] at f0 f1 f2 xe n3
  rw [hS] at s2 x8
  rw [hB, hF]
  go_enter Tryz.func347, Tryz.ntmps347
  go_wp2_with fail
  refine bodyPost_end (results_none rfl _ _ _) rfl ?_
  exact ⟨rfl, rfl⟩

set_option maxRecDepth 100000 in
set_option maxHeartbeats 2000000 in
theorem sbegin_aw (p : Pl) (I : Nat) (cs0 : Array Value) (hc0 : cs0 = #[.int .i64 0, .slice none 0 0, .slice none 0 0, .slice none 0 0, .slice none 0 0]) (w : World) (h : StAt w p) (hS : Has w p.S cs0 234) (hF : Has w p.F #[.int .i64 0] 3) (hI : w.cell? ⟨I, 0, none⟩ = some (.int .i64 0)) (hIl : I < p.S) :
    Calls Tryz.prog 160 #[.pointer (some ⟨p.B, 0, none⟩), .slice (some ⟨I, 0, none⟩) 1 1] w fun e w' => ∃ T D, e = .returned (.tuple #[]) ∧ Has w' p.S (secC T D) 234 ∧ Has w' T #[.int .i64 100] 3 ∧ Has w' D #[.int .i64 0] 3 ∧ w.heap.size ≤ T ∧ T < D ∧ Leaves (fun k => k = p.S) w w' := by
  obtain ⟨B, g, b, c, c', l, cl, A, c1, C, c3, E, F, S⟩ := p
  have HS0 := Lib.hid h
  have HSS := Lib.hid hS
  have HF := Lib.hid hF
  have HTI := Lib.hid (awC_info (b := b) (c := c) ty_info rfl)
  have HLI := Lib.hid loss_info'
  obtain ⟨x1, x4, x5, x6, x7, x8, xe⟩ := h.cells
  obtain ⟨o1, o2, o3, o4, o5, o6, o7, o8⟩ := h.ord
  have olt := h.lt
  dsimp only at x1 x4 x5 x6 x7 x8 xe o1 o2 o3 o4 o5 o6 o7 o8 olt hIl ⊢
  have HOR : Hid (g < B ∧ b < B ∧ l < B ∧ A < B ∧ C < B ∧ B < S ∧ S < E ∧ E < F ∧ F < w.heap.size) := Lib.hid ⟨o1, o2, o3, o4, o5, o6, o7, o8, olt⟩
  clear o1 o2 o3 o4 o5 o6 o7 o8 olt h hS hF
  go_enter Tryz.func160, Tryz.ntmps160
  go_wp2_with fail
  refine wp_loop_rounds 2 ?_
  rw [rounds_succ]
  go_upto_region 4 with (first
    | (refine wpList_load_has ?_ 54 (.tmp 22) ?_ g ?_ _ (awC b c) _ HS0.out.tr.box Tryz.underlying54 ?_ HTI.out ?_; rfl; rfl; rfl; rfl)
    | (refine wpList_store_has ?_ 54 (.tmp 6) (.tmp 23) ?_ w.heap.size ?_ (awC b c) ?_ _ _ (Has.new' w w.heap.size zeroT _ rfl) HTI.out ?_ ?_ ?_; rfl; rfl; rfl; rfl; rfl; rfl; intro w2 hh hl))
  have hb2 : Below w.heap.size w w2 := Below.trans (b := (w.alloc (.cells zeroT 54))) (by (repeat' (first | (with_reducible exact Below.refl _ _) | (with_reducible refine Below.setCell ?_ ?_ _) | (with_reducible refine below_drewN ?_ _) | (with_reducible refine Below.drew ?_) | (with_reducible refine Below.alloc ?_ ?_ _))) <;> (first | omega | (simp <;> omega))) (hl.below (fun k hk => by omega) (by simp))
  have HB := Lib.hid hb2
  have HT6 := Lib.hid hh
  replace HS0 := Lib.hid (HS0.out.below hb2)
  replace HSS := Lib.hid (HSS.out.below hb2 HSS.out.lt)
  replace HF := Lib.hid (HF.out.below hb2 HF.out.lt)
  clear x1 x4 x5 x6 x7 x8 xe hh hl hb2
  obtain ⟨x1, x4, x5, x6, x7, x8, xe⟩ := HS0.out.cells
  have oB : B < w2.heap.size := HS0.out.st.lt
  have ol : l < w2.heap.size := HS0.out.loss.lt
  dsimp only at x1 x4 x5 x6 x7 x8 xe
  have hmk := mk_int1
  go_upto_region 5 with (fail)
  clear hmk
  go_wp2_with fail
  refine wp_loop_rounds 2 ?_
  rw [rounds_succ]
  go_upto_region 8 with (first
    | (refine wpList_load_loss ?_ (.tmp 38) ?_ l ?_ (HS0.out.loss.alloc _) ?_; rfl; rfl; rfl)
    | (refine wpList_store_has ?_ 72 (.tmp 9) (.tmp 39) ?_ (w2.heap.size + 1) ?_ lossC ?_ _ _ (Has.new' (w2.alloc _) (w2.heap.size + 1) zeroL _ (by simp)) HLI.out ?_ ?_ ?_; rfl; rfl; rfl; rfl; rfl; rfl; intro w4 hh hl))
  have hb4 : Below w2.heap.size w2 w4 := Below.trans (b := (w2.alloc (.cells #[.int .i64 0] 3)).alloc (.cells zeroL 72)) (by (repeat' (first | (with_reducible exact Below.refl _ _) | (with_reducible refine Below.setCell ?_ ?_ _) | (with_reducible refine below_drewN ?_ _) | (with_reducible refine Below.drew ?_) | (with_reducible refine Below.alloc ?_ ?_ _))) <;> (first | omega | (simp <;> omega))) (hl.below (fun k hk => by omega) (by simp; omega))
  have HT0 : Hid (Has w4 w2.heap.size #[.int .i64 0] 3) := Lib.hid (((Has.new w2 #[.int .i64 0] 3).alloc (.cells zeroL 72)).leaves hl (by omega))
  have HL9 := Lib.hid hh
  have hs2 := HB.out.size
  have hgT := HT6.out.lt
  replace HB := Lib.hid (HB.out.trans (hb4.mono hs2))
  replace HS0 := Lib.hid (HS0.out.below hb4)
  replace HSS := Lib.hid (HSS.out.below hb4 HSS.out.lt)
  replace HF := Lib.hid (HF.out.below hb4 HF.out.lt)
  replace HT6 := Lib.hid (HT6.out.below hb4 HT6.out.lt)
  clear x1 x4 x5 x6 x7 x8 xe oB ol hh hl hb4
  obtain ⟨T, hT⟩ : ∃ T, w2.heap.size = T := ⟨_, rfl⟩
  obtain ⟨L9, hL⟩ : ∃ T, w2.heap.size + 1 = T := ⟨_, rfl⟩
  obtain ⟨G6, hG⟩ : ∃ T, w.heap.size = T := ⟨_, rfl⟩
  rw [hL] at HL9 ⊢
  rw [hT] at HT0 hs2 hgT ⊢
  rw [hG] at HT6 hgT ⊢
  go_wp2_with (first
    | (refine wpList_load_has ?_ 54 (.tmp 6) ?_ G6 ?_ _ (awC b c) _ HT6.out Tryz.underlying54 ?_ HTI.out ?_; rfl; rfl; rfl; rfl)
    | (refine wpList_load_has ?_ 72 (.tmp 9) ?_ L9 ?_ _ lossC _ HL9.out Tryz.underlying72 ?_ HLI.out ?_; rfl; rfl; rfl; rfl))
  refine (applies_aw b c w4 HS0.out.tr.part).mono ?_
  rintro e w5 ⟨rfl, hb⟩
  have hsz4 := HB.out.size
  replace HB := Lib.hid (HB.out.trans (hb.mono HB.out.size))
  replace HS0 := Lib.hid (HS0.out.below hb)
  replace HSS := Lib.hid (HSS.out.below hb HSS.out.lt)
  replace HF := Lib.hid (HF.out.below hb HF.out.lt)
  replace HT6 := Lib.hid (HT6.out.below hb HT6.out.lt)
  replace HT0 := Lib.hid (HT0.out.below hb HT0.out.lt)
  clear hb
  have HLE : Hid (Leaves (fun k => k = T) w5 w5.drew ∧ Has w5.drew T #[.int .i64 0] 3) := Lib.hid ⟨Leaves.drew (Leaves.refl _ _), HT0.out.drew⟩
  have HOR2 := HOR.out
  have HST : Hid (∀ V, Leaves (fun k => k = T) w5 V → StAt V ⟨B, g, b, c, c', l, cl, A, c1, C, c3, E, F, S⟩ ∧ V.cell? ⟨F, 0, none⟩ = some (.int .i64 0)) := Lib.hid fun V hV => ⟨HS0.out.leaves hV (fun k hk => by right; show F ≤ k; omega), (HF.out.leaves hV (by show ¬ F = T; omega)).cell 0⟩
  have HSV : Hid (∀ V x, Leaves (fun k => k = T) w5 V → Has V T #[.int .i64 x] 3 → V.cell? ⟨B, 1, none⟩ = some (.slice (some ⟨g, 0, none⟩) 1 c') ∧ V.cell? ⟨B, 5, none⟩ = some (.slice (some ⟨A, 0, none⟩) 1 c1) ∧ V.cell? ⟨B, 7, none⟩ = some (.slice (some ⟨E, 0, none⟩) 1 1) ∧ V.cell? ⟨E, 0, none⟩ = some (.slice (some ⟨F, 0, none⟩) 1 1) ∧ V.cell? ⟨A, 0, none⟩ = some (.int .i64 100) ∧ V.frozen? ⟨T, 0, none⟩ = false ∧ V.cell? ⟨T, 0, none⟩ = some (.int .i64 x)) := Lib.hid fun V x hV hH => by
    have h := (HST.out V hV).1
    obtain ⟨x1, x4, x5, x6, x7, x8, xe⟩ := h.cells
    exact ⟨x1, x5, x7, xe, h.am, hH.free _, hH.cell 0⟩
  clear HOR2
  go_wp2_with fail
  go_region_held3 (fun V => V.cell? ⟨B, 1, none⟩ = some (.slice (some ⟨g, 0, none⟩) 1 c') ∧ V.cell? ⟨B, 5, none⟩ = some (.slice (some ⟨A, 0, none⟩) 1 c1) ∧ V.cell? ⟨B, 7, none⟩ = some (.slice (some ⟨E, 0, none⟩) 1 1) ∧ V.cell? ⟨E, 0, none⟩ = some (.slice (some ⟨F, 0, none⟩) 1 1) ∧ V.cell? ⟨A, 0, none⟩ = some (.int .i64 100) ∧ V.frozen? ⟨T, 0, none⟩ = false) (first | (obtain ⟨a1, a2, a3, a4, a5, a6, a7⟩ := HSV.out _ _ HLE.out.1 HLE.out.2; exact ⟨a1, a2, a3, a4, a5, a6⟩) | (obtain ⟨a1, a2, a3, a4, a5, a6, a7⟩ := HSV.out _ 100 (HLE.out.1.put (.inl rfl) _) (HLE.out.2.put 0 _); exact ⟨a1, a2, a3, a4, a5, a6⟩)) (first
    | (go_at_call 197; refine (subject_aw g b c c' F 1 _ (HST.out _ HLE.out.1).1.tr (HST.out _ HLE.out.1).2 (HST.out _ HLE.out.1).1.lt).mono ?_; rintro e w7 ⟨rfl, hb7⟩; replace HLE : Hid (Leaves (fun k => k = T) w5 w7 ∧ Has w7 T #[.int .i64 0] 3) := Lib.hid ⟨HLE.out.1.step hb7, HLE.out.2.below hb7 HLE.out.2.lt⟩; have q7 := HLE.out.2.cell 0; clear hb7))
  obtain ⟨w8, hw8⟩ : ∃ W, w7.setCell ⟨T, 0, none⟩ (.int .i64 100) = W := ⟨_, rfl⟩
  have H8 : Hid (Leaves (fun k => k = T) w5 w8 ∧ Has w8 T #[.int .i64 100] 3) := Lib.hid (by rw [← hw8]; exact ⟨HLE.out.1.put (.inl rfl) _, HLE.out.2.put 0 _⟩)
  rw [hw8]
  clear hw8 HLE q7 HSV
  have HOR2 := HOR.out
  replace HB : Hid (Below w.heap.size w w8) := Lib.hid (HB.out.trans (H8.out.1.below (fun k hk => by have hk' : k = T := hk; rw [hk']; exact hs2) HB.out.size))
  replace HS0 := Lib.hid (HST.out _ H8.out.1).1
  replace HSS := Lib.hid (HSS.out.leaves H8.out.1 (by show ¬ S = T; omega))
  replace HT6 := Lib.hid (HT6.out.leaves H8.out.1 (by show ¬ G6 = T; omega))
  replace HT0 := Lib.hid H8.out.2
  clear H8 HST HOR2 HF HL9 HTI HLI
  go_wp2_with fail
  rw [rounds_succ]
  obtain ⟨x1, x4, x5, x6, x7, x8, xe⟩ := HS0.out.cells
  dsimp only at x1 x4 x5 x6 x7 x8 xe
  have g0 : w8.cell? ⟨G6, 0, none⟩ = some (.int .i64 1) := HT6.out.cell 0
  subst hc0
  have s0 : w8.cell? ⟨S, 0, none⟩ = some (.int .i64 0) := HSS.out.cell 0
  have s1 : w8.cell? ⟨S, 1, none⟩ = some (.slice none 0 0) := HSS.out.cell 1
  have s2 : w8.cell? ⟨S, 2, none⟩ = some (.slice none 0 0) := HSS.out.cell 2
  have s3 : w8.cell? ⟨S, 3, none⟩ = some (.slice none 0 0) := HSS.out.cell 3
  have s4 : w8.cell? ⟨S, 4, none⟩ = some (.slice none 0 0) := HSS.out.cell 4
  have sf0 : w8.frozen? ⟨S, 0, none⟩ = false := HSS.out.free _
  have sf1 : w8.frozen? ⟨S, 1, none⟩ = false := HSS.out.free _
  have sf2 : w8.frozen? ⟨S, 2, none⟩ = false := HSS.out.free _
  have sf3 : w8.frozen? ⟨S, 3, none⟩ = false := HSS.out.free _
  have sf4 : w8.frozen? ⟨S, 4, none⟩ = false := HSS.out.free _
  clear x1 x5 x6 x7 xe
  have hmk := mk_int1
  have sl : S < w8.heap.size := HSS.out.lt
  have bl : B < w8.heap.size := HS0.out.st.lt
  go_wp2_with fail
  have HK : Hid (w8.cell? ⟨B, 8, none⟩ = some (.slice (some ⟨S, 0, none⟩) 1 1) ∧ w8.cell? ⟨B, 4, none⟩ = some (.slice (some ⟨l, 0, none⟩) 1 cl) ∧ w8.cell? ⟨G6, 0, none⟩ = some (.int .i64 1)) := Lib.hid ⟨x8, x4, g0⟩
  have n1 : B ≠ S := by have := HOR.out; omega
  have n2 : G6 ≠ S := by have := HOR.out; omega
  have gl : G6 < w8.heap.size := HT6.out.lt
  go_region
  obtain ⟨D, hD⟩ : ∃ D, w8.heap.size = D := ⟨_, rfl⟩
  have HL : Hid (Leaves (fun k => k = S) w w8) := Lib.hid ⟨HB.out.os, HB.out.tape, HB.out.output, HB.out.size, fun k hk _ => HB.out.block k hk⟩
  have HE : Hid (∀ W, W = ((((((w8.setCell ⟨S, 0, none⟩ (.int .i64 1)).setCell ⟨S, 1, none⟩ (.slice (some ⟨T, 0, none⟩) 1 1)).setCell ⟨S, 2, none⟩ (.slice (some ⟨D, 0, none⟩) 1 1)).setCell ⟨S, 3, none⟩ (.slice none 0 0)).setCell ⟨S, 4, none⟩ (.slice none 0 0)).alloc (.cells #[.int .i64 0] 3)).drew →
      Has W S (secC T D) 234 ∧ Has W T #[.int .i64 100] 3 ∧ Has W D #[.int .i64 0] 3 ∧ w.heap.size ≤ T ∧ T < D ∧ Leaves (fun k => k = S) w W) := Lib.hid fun W hW => by
    have hTS : T ≠ S := by have := HOR.out; omega
    have hTD : T < D := by rw [← hD]; exact HT0.out.lt
    subst hW
    refine ⟨?_, ?_, ?_, hs2, hTD, ?_⟩
    · exact ((((((HSS.out.put 0 _).put 1 _).put 2 _).put 3 _).put 4 _).alloc _).drew
    · exact ((((((HT0.out.far (by exact hTS) _).far (by exact hTS) _).far (by exact hTS) _).far (by exact hTS) _).far (by exact hTS) _).alloc _).drew
    · exact (Has.new' _ D _ _ (by simp [← hD])).drew
    · exact ((((((HL.out.put (.inl rfl) _).put (.inl rfl) _).put (.inl rfl) _).put (.inl rfl) _).put (.inl rfl) _).alloc _).drew
  rw [hD]
  obtain ⟨w9, hw9⟩ : ∃ W, ((((((w8.setCell ⟨S, 0, none⟩ (.int .i64 1)).setCell ⟨S, 1, none⟩ (.slice (some ⟨T, 0, none⟩) 1 1)).setCell ⟨S, 2, none⟩ (.slice (some ⟨D, 0, none⟩) 1 1)).setCell ⟨S, 3, none⟩ (.slice none 0 0)).setCell ⟨S, 4, none⟩ (.slice none 0 0)).alloc (.cells #[.int .i64 0] 3)).drew = W := ⟨_, rfl⟩
  have H9 := Lib.hid (HE.out w9 hw9.symm)
  rw [hw9]
  clear hw9 HE HL HSS HT0 HT6 HS0 HB HOR x4 x8 g0 s0 s1 s2 s3 s4 sf0 sf1 sf2 sf3 sf4 sl bl gl n1 n2 hmk hgT HK hs2
  go_wp2_with fail
  rw [rounds_succ]
  go_wp2_with fail
  refine bodyPost_end (results_none rfl _ _ _) rfl ?_
  exact ⟨T, D, rfl, H9.out⟩
end Go.Proofs.YtbeikfopneeodaaGreat
