/- cession.sort and cession.Divide at the example. cession.Divide at the example. cession.valid, cession.Validate at the example. ledger.Valid, ledger.restated at the entries of the example (printed by wip/gen/tcla.py). -/
import Derived.Test.YtbeikfopneeodaaGreatMt23
import Derived.Test.YtbeikfopneeodaaGreatMt16
import Derived.Shelf.SlSortCmp.SmallK
import Derived.Shelf.SlSortFuncK.ComposeK
namespace Go.Proofs.YtbeikfopneeodaaGreat
open Go.RowKit
set_option linter.unusedVariables false

/-- the two shares of the example -/
def sh0 : Sh := ⟨7, 0, 0, 50, 15⟩
def sh1 : Sh := ⟨7, 1, 2, 50, 15⟩
def shL : List Value := sh0.enc ++ sh1.enc
theorem shL_flat : ∀ j, j < 10 → (Go.Sort.flatK Sh.enc 5 #[sh0, sh1])[j]! = shL[j]! := by
  intro j hj
  rw [Go.Sort.get_flatK _ _ _ _ (by simpa using hj)]
  match j, hj with
  | 0, _ | 1, _ | 2, _ | 3, _ | 4, _ | 5, _ | 6, _ | 7, _ | 8, _ | 9, _ => rfl
theorem sh_sorted : Go.Sort.insertionSort (ltOf Sh.cmp) #[sh0, sh1] 0 2 = #[sh0, sh1] := by decide +kernel

set_option maxRecDepth 100000 in
theorem pdq_two (X cap : Nat) (lim : Int) (w : World) (hX : X < w.heap.size) (hc : ∀ j, j < 10 → w.cell? ⟨X, j, none⟩ = some shL[j]!) (hf : ∀ j, w.frozen? ⟨X, j, none⟩ = false) :
    Calls Tryz.prog 209 #[.slice (some ⟨X, 0, none⟩) 2 cap, .int .i64 0, .int .i64 2, .int .i64 lim, .func (.func 177) #[] #[]] w fun e w' => e = .returned (.tuple #[]) ∧ Leaves (fun k => k = X) w w' ∧ ∀ j, j < 10 → w'.cell? ⟨X, j, none⟩ = some shL[j]! := by
  have eg : ∀ args w, (callFunc 177 args).run Tryz.prog w = .ok (.enter 177 args) w := Go.Proofs.enters_of Tryz.func177 (by kernel_rfl) rfl
  have hH : Go.Sort.HoldsK Sh.enc 5 w X 0 #[sh0, sh1] := fun j hj => by
    have hj' : j < 10 := by simpa using hj
    rw [Nat.zero_add, hc j hj', hf j]
    exact ⟨congrArg some (shL_flat j hj').symm, rfl⟩
  have hcmp : CmpLays Tryz.prog 177 #[] Sh.enc 5 Sh.cmp X 0 (#[sh0, sh1] : Array Sh).size w := fun q os dk hdk x y => shcmp_any x y _
  have hcon := AnyQ.pdqsortCmpFunc_small Tryz.sortSh 5 Tryz.isAgg230 Tryz.sizeOf230 Sh.enc (fun _ => rfl) (fun x v hv => by
    simp only [Sh.enc, List.mem_cons, List.not_mem_nil, or_false] at hv
    rcases hv with rfl | rfl | rfl | rfl | rfl <;> rfl) Sh.cmp 177 #[] X 0 cap 0 2 lim #[sh0, sh1] w eg hcmp hH hX (by omega) (by simp) (by simp) (by omega)
  refine Calls.mono hcon ?_
  rintro e w' ⟨rfl, n, os, rfl⟩
  rw [sh_sorted]
  refine ⟨rfl, leaves_sortWorld id w X 0 n (Go.Sort.flatK Sh.enc 5 #[sh0, sh1]) os, fun j hj => ?_⟩
  have := (holdsK_sortWorldK Sh.enc 5 w X 0 n #[sh0, sh1] #[sh0, sh1] os hX hH rfl j (by simpa using hj)).1
  rw [Nat.zero_add] at this
  rw [this]
  exact congrArg some (shL_flat j hj)

set_option maxRecDepth 100000 in
theorem sort_two (X cap : Nat) (w : World) (hX : X < w.heap.size) (hc : ∀ j, j < 10 → w.cell? ⟨X, j, none⟩ = some shL[j]!) (hf : ∀ j, w.frozen? ⟨X, j, none⟩ = false) :
    Calls Tryz.prog 176 #[.slice (some ⟨X, 0, none⟩) 2 cap, .func (.func 177) #[] #[]] w fun e w' => e = .returned (.tuple #[]) ∧ Leaves (fun k => k = X) w w' ∧ ∀ j, j < 10 → w'.cell? ⟨X, j, none⟩ = some shL[j]! := by
  have C1 := Lib.hid (fun lim => pdq_two X cap lim w hX hc hf)
  clear hX hc hf
  go_enter Tryz.func176, Tryz.ntmps176
  go_wp2_with fail
  refine (Tryz.bits_Len _ _ (by decide) (by decide)).mono ?_
  rintro e w1 ⟨rfl, rfl⟩
  go_wp2_with fail
  refine (C1.out _).mono ?_
  rintro e w2 ⟨rfl, h1, h2⟩
  have H1 := Lib.hid h1
  have H2 := Lib.hid h2
  clear h1 h2
  go_wp2_with fail
  refine bodyPost_end (results_none rfl _ _ _) rfl ?_
  exact ⟨rfl, H1.out, H2.out⟩

theorem csort_two (X cap : Nat) (w : World) (hX : X < w.heap.size) (hc : ∀ j, j < 10 → w.cell? ⟨X, j, none⟩ = some shL[j]!) (hf : ∀ j, w.frozen? ⟨X, j, none⟩ = false) :
    Calls Tryz.prog 134 #[.slice (some ⟨X, 0, none⟩) 2 cap] w fun e w' => e = .returned (.tuple #[]) ∧ Leaves (fun k => k = X) w w' ∧ ∀ j, j < 10 → w'.cell? ⟨X, j, none⟩ = some shL[j]! := by
  have C1 := Lib.hid (sort_two X cap w hX hc hf)
  clear hX hc hf
  go_enter Tryz.func134, Tryz.ntmps134
  go_wp2_with fail
  refine C1.out.mono ?_
  rintro e w2 ⟨rfl, h1, h2⟩
  have H1 := Lib.hid h1
  have H2 := Lib.hid h2
  clear h1 h2
  go_wp2_with fail
  refine bodyPost_end (results_none rfl _ _ _) rfl ?_
  exact ⟨rfl, H1.out, H2.out⟩
end Go.Proofs.YtbeikfopneeodaaGreat
namespace Go.Proofs.YtbeikfopneeodaaGreat
open Go.RowKit
set_option linter.unusedVariables false

set_option maxRecDepth 100000 in
set_option maxHeartbeats 4000000 in
theorem cDivide_aw (g b c c' l cl A c1 B c2 S T D K : Nat) (w : World) (h : TrAt w g b c) (hl : LossAt w l) (ho : OutAt w A B S T D K) : Calls Tryz.prog 92 #[.agg (awP g c'), .slice (some ⟨l, 0, none⟩) 1 cl, .agg (outC A c1 B c2 S K)] w
    fun e w' => ∃ X cap, e = .returned (.tuple #[.slice (some ⟨X, 0, none⟩) 2 cap, .int .i64 0]) ∧ (∀ j, j < 10 → w'.cell? ⟨X, j, none⟩ = some shL[j]!) ∧ X < w'.heap.size ∧ w.heap.size ≤ X ∧ Below w.heap.size w w' := by
  have HT0 := Lib.hid h
  have HO0 := Lib.hid ho
  have HL0 := Lib.hid hl
  have HPI := Lib.hid (prog_info g c')
  have HOI : Hid _ := Lib.hid (out_info (A := A) (c1 := c1) (B := B) (c2 := c2) (S := S) (K := K))
  have HLI := Lib.hid loss_info'
  have HP := Lib.hid ((Has.new w (awP g c') 59).alloc (.cells (outC A c1 B c2 S K) 168))
  have HO := Lib.hid (Has.new' (w.alloc (.cells (awP g c') 59)) (w.heap.size + 1) (outC A c1 B c2 S K) 168 (by simp))
  clear h hl ho
  go_enter Tryz.func92, Tryz.ntmps92
  go_wp2_with (refine wpList_load_has ?_ 59 (.tmp 3) ?_ w.heap.size ?_ _ (awP g c') _ HP.out Tryz.underlying59 ?_ HPI.out ?_; rfl; rfl; rfl; rfl)
  have hb0 : Below w.heap.size w ((w.alloc (.cells (awP g c') 59)).alloc (.cells (outC A c1 B c2 S K) 168)) := (by (repeat' (first | (with_reducible exact Below.refl _ _) | (with_reducible refine Below.setCell ?_ ?_ _) | (with_reducible refine below_drewN ?_ _) | (with_reducible refine Below.drew ?_) | (with_reducible refine Below.alloc ?_ ?_ _))) <;> (first | omega | (simp <;> omega)))
  refine (amounts_aw g b c c' l cl _ (HT0.out.later hb0) (HL0.out.below hb0 HL0.out.lt)).mono ?_
  rintro e w1 ⟨A1, B1, C1, d1, d2, d3, rfl, hA, hB, hC, hb⟩
  replace HP := Lib.hid (HP.out.below hb (by simp; omega))
  replace HO := Lib.hid (HO.out.below hb (by simp))
  have HB := Lib.hid (hb0.trans (hb.mono hb0.size))
  have HA1 : Hid (w1.cell? ⟨A1, 0, none⟩ = some (.int .i64 100) ∧ w1.cell? ⟨B1, 0, none⟩ = some (.int .i64 30)) := Lib.hid ⟨hA.cell (by omega), hB.cell (by omega)⟩
  have HOx := Lib.hid (HO0.out.below HB.out)
  clear hA hB hC hb hb0
  obtain ⟨P, hP⟩ : ∃ Q, w.heap.size = Q := ⟨_, rfl⟩
  obtain ⟨O, hO⟩ : ∃ Q, w.heap.size + 1 = Q := ⟨_, rfl⟩
  have HN : Hid (w.heap.size = P ∧ O = P + 1) := Lib.hid (by omega)
  rw [hP] at HP
  rw [hO] at HO ⊢
  rw [hP]
  clear hP hO
  have o0 : w1.cell? ⟨O, 0, none⟩ = some (.slice (some ⟨A, 0, none⟩) 1 c1) := HO.out.cell 0
  go_wp2_with fail
  refine (Tryz.slices_Equal_int A 0 1 c1 A1 0 1 d1 [100] [100] _ (by simp) (by simp) (by omega) (by omega) ?_ ?_).mono ?_
  · intro j hj
    obtain rfl : j = 0 := by simp at hj; omega
    exact HOx.out.am
  · intro j hj
    obtain rfl : j = 0 := by simp at hj; omega
    exact HA1.out.1
  rintro e w2 ⟨rfl, q, rfl⟩
  have o1 : (w1.drewN q).cell? ⟨O, 1, none⟩ = some (.slice (some ⟨B, 0, none⟩) 1 c2) := HO.out.cell 1
  go_wp2_with fail
  refine (Tryz.slices_Equal_int B 0 1 c2 B1 0 1 d2 [30] [30] _ (by simp) (by simp) (by omega) (by omega) ?_ ?_).mono ?_
  · intro j hj
    obtain rfl : j = 0 := by simp at hj; omega
    exact HOx.out.pd
  · intro j hj
    obtain rfl : j = 0 := by simp at hj; omega
    exact HA1.out.2
  rintro e w2 ⟨rfl, q2, rfl⟩
  replace HP := Lib.hid ((HP.out.drewN q).drewN q2)
  replace HO := Lib.hid ((HO.out.drewN q).drewN q2)
  replace HB := Lib.hid (below_drewN (below_drewN HB.out q) q2)
  obtain ⟨w2, hw2⟩ : ∃ W, (w1.drewN q).drewN q2 = W := ⟨_, rfl⟩
  rw [hw2] at HP HO HB ⊢
  clear hw2 o0 o1 HA1 HOx
  have p0 : w2.cell? ⟨P, 0, none⟩ = some (.int .i64 0) := HP.out.cell 0
  have p1 : w2.cell? ⟨P, 1, none⟩ = some (.slice (some ⟨g, 0, none⟩) 1 c') := HP.out.cell 1
  have p2 : w2.cell? ⟨P, 2, none⟩ = some (.slice none 0 0) := HP.out.cell 2
  have p3 : w2.cell? ⟨P, 3, none⟩ = some (.slice none 0 0) := HP.out.cell 3
  have o0 : w2.cell? ⟨O, 0, none⟩ = some (.slice (some ⟨A, 0, none⟩) 1 c1) := HO.out.cell 0
  have o1 : w2.cell? ⟨O, 1, none⟩ = some (.slice (some ⟨B, 0, none⟩) 1 c2) := HO.out.cell 1
  have o2 : w2.cell? ⟨O, 2, none⟩ = some (.slice (some ⟨S, 0, none⟩) 1 1) := HO.out.cell 2
  have o3 : w2.cell? ⟨O, 3, none⟩ = some (.slice (some ⟨K, 0, none⟩) 1 1) := HO.out.cell 3
  go_wp2_with fail
  refine (cfits_aw g b c c' A c1 B c2 S T D K w2 (HT0.out.later HB.out) (HO0.out.below HB.out)).mono ?_
  rintro e w3 ⟨rfl, hb⟩
  replace HP := Lib.hid (HP.out.below hb HP.out.lt)
  replace HO := Lib.hid (HO.out.below hb HO.out.lt)
  replace HB := Lib.hid (HB.out.trans (hb.mono HB.out.size))
  clear hb p0 p1 p2 p3 o0 o1 o2 o3
  go_wp2_with fail
  refine wp_loop_rounds 2 ?_
  rw [rounds_succ]
  have HLx := Lib.hid (HL0.out.below HB.out HL0.out.lt)
  go_upto_region 10 with (first
    | (refine wpList_load_loss ?_ (.tmp 49) ?_ l ?_ HLx.out ?_; rfl; rfl; rfl)
    | (refine wpList_store_has ?_ 72 (.tmp 14) (.tmp 50) ?_ w3.heap.size ?_ lossC ?_ _ _ (Has.new' w3 w3.heap.size zeroL _ rfl) HLI.out ?_ ?_ ?_; rfl; rfl; rfl; rfl; rfl; rfl; intro w4 hh hl))
  have hb4 : Below w3.heap.size w3 w4 := Below.trans (b := (w3.alloc (.cells zeroL 72))) (by (repeat' (first | (with_reducible exact Below.refl _ _) | (with_reducible refine Below.setCell ?_ ?_ _) | (with_reducible refine below_drewN ?_ _) | (with_reducible refine Below.drew ?_) | (with_reducible refine Below.alloc ?_ ?_ _))) <;> (first | omega | (simp <;> omega))) (hl.below (fun k hk => by have hk' : k = w3.heap.size := hk; omega) (by simp))
  have l0 : w4.cell? ⟨w3.heap.size, 0, none⟩ = some (.int .i64 7) := hh.cell 0
  replace HP := Lib.hid (HP.out.below hb4 HP.out.lt)
  replace HO := Lib.hid (HO.out.below hb4 HO.out.lt)
  replace HB := Lib.hid (HB.out.trans (hb4.mono HB.out.size))
  clear hb4 hh hl HLx
  obtain ⟨G, hG⟩ : ∃ Q, w3.heap.size = Q := ⟨_, rfl⟩
  rw [hG] at l0 ⊢
  clear hG
  go_wp2_with (first
    | (refine wpList_load_has ?_ 59 (.tmp 3) ?_ P ?_ _ (awP g c') _ HP.out Tryz.underlying59 ?_ HPI.out ?_; rfl; rfl; rfl; rfl)
    | (refine wpList_load_has ?_ 168 (.tmp 5) ?_ O ?_ _ (outC A c1 B c2 S K) _ HO.out Tryz.underlying168 ?_ HOI.out ?_; rfl; rfl; rfl; rfl))
  refine (cdiv_aw g b c c' A c1 B c2 S T D K w4 (HT0.out.later HB.out) (HO0.out.below HB.out)).mono ?_
  rintro e w5 ⟨X, cap, rfl, hr, hb⟩
  have hs4 := HB.out.size
  have hX := own_lt (k := X) hr rfl
  have hOw := Own.of_row (F := fun j => shL[j]!) hr (fun j hj => by
    have hj : j < 10 := by omega
    match j, hj with
    | 0, _ | 1, _ | 2, _ | 3, _ | 4, _ | 5, _ | 6, _ | 7, _ | 8, _ | 9, _ => rfl)
  have C9 := Lib.hid (csort_two X cap w5 hX.1 (fun j hj => hOw.cell (by omega)) (fun j => hOw.free j))
  have HX : Hid (w.heap.size ≤ X ∧ X < w5.heap.size) := Lib.hid ⟨by omega, hX.1⟩
  replace HB := Lib.hid (HB.out.trans (hb.mono hs4))
  clear hr hb hs4 hX hOw l0 HP HO
  go_wp2_with fail
  rw [rounds_succ]
  go_wp2_with fail
  refine C9.out.mono ?_
  rintro e w6 ⟨rfl, hl, hc⟩
  have HC := Lib.hid hc
  replace HB : Hid (Below w.heap.size w w6) := Lib.hid (HB.out.trans (hl.below (fun k hk => by have hk' : k = X := hk; have := HX.out; omega) HB.out.size))
  have hXl : X < w6.heap.size := Nat.lt_of_lt_of_le HX.out.2 hl.size
  clear hl hc C9
  go_wp2_with fail
  go_ret2
  exact ⟨X, cap, rfl, HC.out, hXl, HX.out.1, HB.out⟩
end Go.Proofs.YtbeikfopneeodaaGreat
namespace Go.Proofs.YtbeikfopneeodaaGreat
open Go.RowKit
set_option linter.unusedVariables false

set_option maxRecDepth 100000 in
theorem cvalid0 (w : World) : Calls Tryz.prog 178 #[.agg #[.int .i64 7, .int .i64 0, .int .i64 0, .int .i64 50, .int .i64 15]] w fun e w' => e = .returned (.bool true) ∧ Below w.heap.size w w' := by
  go_enter Tryz.func178, Tryz.ntmps178
  go_wp2_with fail
  go_ret
  exact ⟨rfl, (Below.refl _ _).alloc (Nat.le_refl _) _⟩
set_option maxRecDepth 100000 in
theorem cvalid1 (w : World) : Calls Tryz.prog 178 #[.agg #[.int .i64 7, .int .i64 1, .int .i64 2, .int .i64 50, .int .i64 15]] w fun e w' => e = .returned (.bool true) ∧ Below w.heap.size w w' := by
  go_enter Tryz.func178, Tryz.ntmps178
  go_wp2_with fail
  go_ret
  exact ⟨rfl, (Below.refl _ _).alloc (Nat.le_refl _) _⟩

theorem grow_below (w : World) (q : Nat) (os : Array Obj) : Below w.heap.size w (Go.Sort.grow (w.drewN q) os) :=
  ⟨rfl, rfl, rfl, by show w.heap.size ≤ (w.heap ++ os).size; simp, fun k hk => Go.Sort.heap_grow_old _ os hk⟩

/-- two shares lie in block X -/
def ShAt (w : World) (X : Nat) : Prop := (∀ j, j < 10 → w.cell? ⟨X, j, none⟩ = some shL[j]!) ∧ X < w.heap.size
theorem ShAt.below {w w' : World} {X : Nat} (h : ShAt w X) (hb : Below w.heap.size w w') : ShAt w' X :=
  ⟨fun j hj => (hb.cell (p := ⟨X, j, none⟩) h.2).trans (h.1 j hj), Nat.lt_of_lt_of_le h.2 hb.size⟩
theorem ShAt.cells {w : World} {X : Nat} (h : ShAt w X) : w.cell? ⟨X, 0, none⟩ = some (.int .i64 7) ∧ w.cell? ⟨X, 1, none⟩ = some (.int .i64 0) ∧ w.cell? ⟨X, 2, none⟩ = some (.int .i64 0) ∧ w.cell? ⟨X, 3, none⟩ = some (.int .i64 50) ∧ w.cell? ⟨X, 4, none⟩ = some (.int .i64 15) ∧
    w.cell? ⟨X, 5, none⟩ = some (.int .i64 7) ∧ w.cell? ⟨X, 6, none⟩ = some (.int .i64 1) ∧ w.cell? ⟨X, 7, none⟩ = some (.int .i64 2) ∧ w.cell? ⟨X, 8, none⟩ = some (.int .i64 50) ∧ w.cell? ⟨X, 9, none⟩ = some (.int .i64 15) :=
  ⟨h.1 0 (by omega), h.1 1 (by omega), h.1 2 (by omega), h.1 3 (by omega), h.1 4 (by omega), h.1 5 (by omega), h.1 6 (by omega), h.1 7 (by omega), h.1 8 (by omega), h.1 9 (by omega)⟩

set_option maxRecDepth 100000 in
set_option maxHeartbeats 2000000 in
theorem cvalidate_aw (X cap : Nat) (w : World) (h : ShAt w X) : Calls Tryz.prog 135 #[.slice (some ⟨X, 0, none⟩) 2 cap] w (IntPost 0 w) := by
  have HS := Lib.hid h
  obtain ⟨x0, x1, x2, x3, x4, x5, x6, x7, x8, x9⟩ := h.cells
  have xl := h.2
  clear h
  go_enter Tryz.func135, Tryz.ntmps135
  go_wp2_with fail
  refine wp_loop_rounds 3 ?_
  rw [rounds_succ]
  go_wp2_with fail
  refine (cvalid0 _).mono ?_
  rintro e w1 ⟨rfl, hb⟩
  have hb1 : Below w.heap.size w w1 := ((Below.refl _ _).alloc (Nat.le_refl _) _).trans (hb.mono (by simp))
  have HB := Lib.hid hb1
  replace HS := Lib.hid (HS.out.below hb1)
  clear hb hb1 x0 x1 x2 x3 x4 x5 x6 x7 x8 x9 xl
  obtain ⟨x0, x1, x2, x3, x4, x5, x6, x7, x8, x9⟩ := HS.out.cells
  have xl := HS.out.2
  obtain ⟨G, hG⟩ : ∃ Q, w.heap.size = Q := ⟨_, rfl⟩
  rw [hG]
  clear hG
  go_wp2_with fail
  go_quiet (fail)
  obtain ⟨w2, hw2⟩ : ∃ W, w1.drewN nq = W := ⟨_, rfl⟩
  replace HB := Lib.hid (below_drewN HB.out nq)
  replace HS : Hid (ShAt (w1.drewN nq) X) := Lib.hid HS.out
  rw [hw2] at HB HS ⊢
  clear hw2 x0 x1 x2 x3 x4 x5 x6 x7 x8 x9 xl
  obtain ⟨x0, x1, x2, x3, x4, x5, x6, x7, x8, x9⟩ := HS.out.cells
  have xl := HS.out.2
  go_wp2_with fail
  rw [rounds_succ]
  go_wp2_with fail
  refine (cvalid1 _).mono ?_
  rintro e w3 ⟨rfl, hb⟩
  have hb1 : Below w2.heap.size w2 w3 := ((Below.refl _ _).alloc (Nat.le_refl _) _).trans (hb.mono (by simp))
  have hg : Has w3 w2.heap.size #[.int .i64 7, .int .i64 1, .int .i64 2, .int .i64 50, .int .i64 15] 230 := (Has.new w2 _ _).below hb (by simp)
  replace HB := Lib.hid (HB.out.trans (hb1.mono HB.out.size))
  replace HS := Lib.hid (HS.out.below hb1)
  clear hb hb1 x0 x1 x2 x3 x4 x5 x6 x7 x8 x9 xl
  obtain ⟨x0, x1, x2, x3, x4, x5, x6, x7, x8, x9⟩ := HS.out.cells
  have xl := HS.out.2
  obtain ⟨G2, hG⟩ : ∃ Q, w2.heap.size = Q := ⟨_, rfl⟩
  rw [hG] at hg ⊢
  clear hG
  have g0 : w3.cell? ⟨G2, 0, none⟩ = some (.int .i64 7) := hg.cell 0
  have g1 : w3.cell? ⟨G2, 1, none⟩ = some (.int .i64 1) := hg.cell 1
  have g2 : w3.cell? ⟨G2, 2, none⟩ = some (.int .i64 2) := hg.cell 2
  have g3 : w3.cell? ⟨G2, 3, none⟩ = some (.int .i64 50) := hg.cell 3
  have g4 : w3.cell? ⟨G2, 4, none⟩ = some (.int .i64 15) := hg.cell 4
  clear hg
  go_wp2_with fail
  have hw1 : IntKind.i64.wrap (1 - 1) = 0 := by decide
  have hw0 : IntKind.i64.wrap 0 = 0 := by decide
  refine wp_region_still_tail 9 (by kernel_rfl) (by kernel_rfl) ?_
  simp only [List.take_succ_cons, List.take_zero, List.drop_succ_cons, List.drop_zero]
  repeat (first | still_step)
  try refine wpStill_nil ?_
  change wpList _ _ _ _ _ w3.drew
  go_wp2_with fail
  have hcmp : Sh.cmp sh1 sh0 = 1 := by decide
  have C1 := Lib.hid (shcmp_any sh1 sh0 w3.drew)
  rw [hcmp] at C1
  refine C1.out.mono ?_
  rintro e w4 ⟨rfl, q, os, rfl⟩
  replace HB := Lib.hid (HB.out.drew.trans ((grow_below w3.drew q os).mono HB.out.size))
  obtain ⟨w4, hw4⟩ : ∃ W, Go.Sort.grow (w3.drew.drewN q) os = W := ⟨_, rfl⟩
  rw [hw4] at HB ⊢
  clear hw4 C1 hcmp g0 g1 g2 g3 g4 x0 x1 x2 x3 x4 x5 x6 x7 x8 x9 xl HS
  go_wp2_with fail
  rw [rounds_succ]
  go_wp2_with fail
  go_ret
  exact ⟨rfl, HB.out⟩
end Go.Proofs.YtbeikfopneeodaaGreat
namespace Go.Proofs.YtbeikfopneeodaaGreat
open Go.RowKit
set_option linter.unusedVariables false

set_option maxRecDepth 100000 in
theorem lvalid_p0 (w : World) : Calls Tryz.prog 51 #[.agg #[.int .i64 1, .int .i64 0, .int .i64 0, .int .i64 7, .int .i64 15]] w fun e w' => e = .returned (.bool true) ∧ Below w.heap.size w w' := by
  have hv : Am.validB 15 = true := by decide
  go_enter Tryz.func51, Tryz.ntmps51
  go_wp2_with fail
  refine (valid_any _ _).mono ?_
  rintro e w1 ⟨rfl, rfl⟩
  rw [hv]
  go_wp2_with fail
  go_ret
  exact ⟨rfl, (Below.refl _ _).alloc (Nat.le_refl _) _⟩
set_option maxRecDepth 100000 in
theorem lrest_p0 (w : World) : Calls Tryz.prog 97 #[.agg #[.int .i64 1, .int .i64 0, .int .i64 0, .int .i64 7, .int .i64 15]] w fun e w' => e = .returned (.bool true) ∧ Below w.heap.size w w' := by
  go_enter Tryz.func97, Tryz.ntmps97
  go_wp2_with fail
  go_ret
  exact ⟨rfl, (Below.refl _ _).alloc (Nat.le_refl _) _⟩

set_option maxRecDepth 100000 in
theorem lvalid_p1 (w : World) : Calls Tryz.prog 51 #[.agg #[.int .i64 1, .int .i64 1, .int .i64 2, .int .i64 7, .int .i64 15]] w fun e w' => e = .returned (.bool true) ∧ Below w.heap.size w w' := by
  have hv : Am.validB 15 = true := by decide
  go_enter Tryz.func51, Tryz.ntmps51
  go_wp2_with fail
  refine (valid_any _ _).mono ?_
  rintro e w1 ⟨rfl, rfl⟩
  rw [hv]
  go_wp2_with fail
  go_ret
  exact ⟨rfl, (Below.refl _ _).alloc (Nat.le_refl _) _⟩
set_option maxRecDepth 100000 in
theorem lrest_p1 (w : World) : Calls Tryz.prog 97 #[.agg #[.int .i64 1, .int .i64 1, .int .i64 2, .int .i64 7, .int .i64 15]] w fun e w' => e = .returned (.bool true) ∧ Below w.heap.size w w' := by
  go_enter Tryz.func97, Tryz.ntmps97
  go_wp2_with fail
  go_ret
  exact ⟨rfl, (Below.refl _ _).alloc (Nat.le_refl _) _⟩

set_option maxRecDepth 100000 in
theorem lvalid_r0 (w : World) : Calls Tryz.prog 51 #[.agg #[.int .i64 2, .int .i64 0, .int .i64 0, .int .i64 7, .int .i64 35]] w fun e w' => e = .returned (.bool true) ∧ Below w.heap.size w w' := by
  have hv : Am.validB 35 = true := by decide
  go_enter Tryz.func51, Tryz.ntmps51
  go_wp2_with fail
  refine (valid_any _ _).mono ?_
  rintro e w1 ⟨rfl, rfl⟩
  rw [hv]
  go_wp2_with fail
  go_ret
  exact ⟨rfl, (Below.refl _ _).alloc (Nat.le_refl _) _⟩
set_option maxRecDepth 100000 in
theorem lrest_r0 (w : World) : Calls Tryz.prog 97 #[.agg #[.int .i64 2, .int .i64 0, .int .i64 0, .int .i64 7, .int .i64 35]] w fun e w' => e = .returned (.bool true) ∧ Below w.heap.size w w' := by
  go_enter Tryz.func97, Tryz.ntmps97
  go_wp2_with fail
  go_ret
  exact ⟨rfl, (Below.refl _ _).alloc (Nat.le_refl _) _⟩

set_option maxRecDepth 100000 in
theorem lvalid_r1 (w : World) : Calls Tryz.prog 51 #[.agg #[.int .i64 2, .int .i64 1, .int .i64 2, .int .i64 7, .int .i64 35]] w fun e w' => e = .returned (.bool true) ∧ Below w.heap.size w w' := by
  have hv : Am.validB 35 = true := by decide
  go_enter Tryz.func51, Tryz.ntmps51
  go_wp2_with fail
  refine (valid_any _ _).mono ?_
  rintro e w1 ⟨rfl, rfl⟩
  rw [hv]
  go_wp2_with fail
  go_ret
  exact ⟨rfl, (Below.refl _ _).alloc (Nat.le_refl _) _⟩
set_option maxRecDepth 100000 in
theorem lrest_r1 (w : World) : Calls Tryz.prog 97 #[.agg #[.int .i64 2, .int .i64 1, .int .i64 2, .int .i64 7, .int .i64 35]] w fun e w' => e = .returned (.bool true) ∧ Below w.heap.size w w' := by
  go_enter Tryz.func97, Tryz.ntmps97
  go_wp2_with fail
  go_ret
  exact ⟨rfl, (Below.refl _ _).alloc (Nat.le_refl _) _⟩

set_option maxRecDepth 100000 in
theorem lvalid_m1 (w : World) : Calls Tryz.prog 51 #[.agg #[.int .i64 3, .int .i64 1, .int .i64 2, .int .i64 0, .int .i64 0]] w fun e w' => e = .returned (.bool true) ∧ Below w.heap.size w w' := by
  have hv : Am.validB 0 = true := by decide
  go_enter Tryz.func51, Tryz.ntmps51
  go_wp2_with fail
  refine (valid_any _ _).mono ?_
  rintro e w1 ⟨rfl, rfl⟩
  rw [hv]
  go_wp2_with fail
  go_ret
  exact ⟨rfl, (Below.refl _ _).alloc (Nat.le_refl _) _⟩
set_option maxRecDepth 100000 in
theorem lrest_m1 (w : World) : Calls Tryz.prog 97 #[.agg #[.int .i64 3, .int .i64 1, .int .i64 2, .int .i64 0, .int .i64 0]] w fun e w' => e = .returned (.bool true) ∧ Below w.heap.size w w' := by
  go_enter Tryz.func97, Tryz.ntmps97
  go_wp2_with fail
  go_ret
  exact ⟨rfl, (Below.refl _ _).alloc (Nat.le_refl _) _⟩
end Go.Proofs.YtbeikfopneeodaaGreat
