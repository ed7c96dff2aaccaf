/- The example of the offices: programme.Towers. programme.covered, inuring.set, inuring.Subject at the example. Comparisons: cmp.Or, cmp.Compare, and the comparisons of shares and entries. The comparison of split.divide. -/
import Derived.Test.YtbeikfopneeodaaGreatMt09
import Derived.Test.YtbeikfopneeodaaGreatShelf
import Derived.Test.YtbeikfopneeodaaGreatMt12
import Derived.Maps.OwnSet
import Derived.Maps.OwnOps
import Derived.Test.YtbeikfopneeodaaGreatMt02
import Derived.Test.YtbeikfopneeodaaGreatMt04
import Derived.StillTailTactics
import Derived.Deep.RegionHeld3
import Derived.Sort.Grow
namespace Go.Proofs.YtbeikfopneeodaaGreat
open Go.RowKit
set_option linter.unusedVariables false

set_option maxRecDepth 100000 in
set_option maxHeartbeats 1000000 in
theorem ins_one (A : Option Addr) (c : Nat) (fv : Value) (w : World) : Calls Tryz.prog 267 #[.slice A 1 c, .int .i64 0, .int .i64 1, fv] w fun e w' => e = .returned (.tuple #[]) ∧ w = w' := by
  go_enter Tryz.func267, Tryz.ntmps267
  go_wp2_with fail
  refine wp_loop_rounds 1 ?_
  rw [rounds_succ]
  go_wp2_with fail
  go_end0
  exact ⟨rfl, rfl⟩
set_option maxRecDepth 100000 in
set_option maxHeartbeats 1000000 in
theorem pdq_one (A : Option Addr) (c : Nat) (l : Int) (fv : Value) (w : World) : Calls Tryz.prog 231 #[.slice A 1 c, .int .i64 0, .int .i64 1, .int .i64 l, fv] w fun e w' => e = .returned (.tuple #[]) ∧ w = w' := by
  go_enter Tryz.func231, Tryz.ntmps231
  go_wp2_with fail
  refine wp_loop_rounds 1 ?_
  rw [rounds_succ]
  go_wp2_with fail
  refine (ins_one _ _ _ _).mono ?_
  rintro e w' ⟨rfl, rfl⟩
  go_wp2_with fail
  refine bodyPost_ret (results_none rfl _ _ _) rfl ?_
  exact ⟨rfl, rfl⟩
set_option maxRecDepth 100000 in
theorem sort_one (A : Option Addr) (c : Nat) (fv : Value) (w : World) : Calls Tryz.prog 194 #[.slice A 1 c, fv] w fun e w' => e = .returned (.tuple #[]) ∧ w = w' := by
  go_enter Tryz.func194, Tryz.ntmps194
  go_wp2_with fail
  refine (Tryz.bits_Len _ _ (by decide) (by decide)).mono ?_
  rintro e w' ⟨rfl, rfl⟩
  go_wp2_with fail
  refine (pdq_one _ _ _ _ _).mono ?_
  rintro e w' ⟨rfl, rfl⟩
  go_wp2_with fail
  go_end0
  exact ⟨rfl, rfl⟩
theorem idx_none (fv : Value) (w : World) : Calls Tryz.prog 192 #[.slice none 0 0, fv] w fun e w' => e = .returned (.int .i64 (-1)) ∧ w = w' := by
  go_enter Tryz.func192, Tryz.ntmps192
  go_wp2_with fail
  refine wp_loop_rounds 1 ?_
  rw [rounds_succ]
  go_wp2_with fail
  go_ret
  exact ⟨rfl, rfl⟩

set_option maxRecDepth 100000 in
theorem slint_info : (Tryz.prog.info? 22).map (fun i => (i.zero, i.size, i.bytes)) = some (some (.slice none 0 0), 1, 24) := by kernel_rfl

set_option maxRecDepth 100000 in
set_option maxHeartbeats 1000000 in
theorem towers_aw (g b c c' : Nat) (w : World) (h : TrAt w g b c) : Calls Tryz.prog 159 #[.agg (awP g c')] w
    fun e w' => ∃ G I cap, e = .returned (.tuple #[.slice (some ⟨G, 0, none⟩) 1 cap, .int .i64 0]) ∧ Own w' w.heap.size G 1 cap 1 22 (fun _ => .slice (some ⟨I, 0, none⟩) 1 1) ∧ Has w' I #[.int .i64 0] 3 ∧ Below w.heap.size w w' := by
  have HT := Lib.hid h
  have HP := Lib.hid (Has.new w (awP g c') 59)
  unfold awP
  go_enter Tryz.func159, Tryz.ntmps159
  go_wp2_with fail
  refine (pvalid_aw g b c c' _ (HT.out.later ((Below.refl _ _).alloc (Nat.le_refl _) _))).mono ?_
  rintro e w1 ⟨rfl, hb⟩
  have HB : Hid (Below w.heap.size w w1) := Lib.hid (((Below.refl _ _).alloc (Nat.le_refl _) _).trans (hb.mono (by simp)))
  replace HT := Lib.hid (HT.out.later HB.out)
  replace HP := Lib.hid (HP.out.below hb (by simp))
  clear hb h
  obtain ⟨Q, hQ⟩ : ∃ Q, w.heap.size = Q := ⟨_, rfl⟩
  have x1 : w1.cell? ⟨w.heap.size, 1, none⟩ = some (.slice (some ⟨g, 0, none⟩) 1 c') := HP.out.cell 1
  rw [hQ] at x1
  rw [hQ]
  go_wp2_with fail
  refine (order_aw g b c c' w1 HT.out).mono ?_
  rintro e w2 ⟨G, cap, rfl, ho, hb⟩
  have hG : w2.cell? ⟨G, 0, none⟩ = some (.int .i64 0) := ho.cell (by omega)
  have hs := HB.out.size
  replace HB := Lib.hid (HB.out.trans (hb.mono hs))
  clear hb ho x1
  go_wp2_with fail
  refine wp_loop_rounds 2 ?_
  rw [rounds_succ]
  go_wp2_with fail
  refine (idx_none _ _).mono ?_
  rintro e w3 ⟨rfl, rfl⟩
  obtain ⟨i0, hi0, hz0, hz1, hz2⟩ := info_parts slint_info
  have HI := Lib.hid hi0
  have HZ0 := Lib.hid hz0
  have HZ1 := Lib.hid hz1
  have HZ2 := Lib.hid hz2
  clear hi0 hz0 hz1 hz2
  have HO : Hid (∀ W : World, W.ownsRow W.heap.size 22 1 (.slice none 0 0) 0 []) := Lib.hid fun W => ⟨rfl, .inl ⟨rfl, rfl⟩⟩
  go_wp2_with ((at_builtin; refine wpList_append_lies _ rfl _ _ 272 rfl _ 22 i0 _ 1 24 Tryz.underlying272 HI.out HZ0.out HZ1.out HZ2.out rfl (by omega) _ 0 [] rfl (HO.out _) ⟨w2.heap.size + 1 + 1, 0, none⟩ 1 1 [.slice (some ⟨w2.heap.size + 1, 0, none⟩) 1 1] rfl rfl (World.news_of_block (cs := #[.slice (some ⟨w2.heap.size + 1, 0, none⟩) 1 1]) (t := 22) (fr := (0, 0)) (by rw [show w2.heap.size + 1 + 1 = ((w2.alloc (.cells #[.int .i64 0] 3)).alloc (.cells #[.int .i64 0] 3)).heap.size by simp]; exact heap_alloc_new _ _)) (by simp [Value.oneCell']) (by omega) (by unfold maxLen; omega) (by omega) (by simp) (w2.heap.size + 1 + 1 + 1) (by simp) ?_; intro gg cp w4 hown hgrow hat hlt))
  have hb4 : Below w2.heap.size w2 w4 := Below.grown (by (repeat' (first | (with_reducible exact Below.refl _ _) | (with_reducible refine Below.setCell ?_ ?_ _) | (with_reducible refine below_drewN ?_ _) | (with_reducible refine Below.drew ?_) | (with_reducible refine Below.alloc ?_ ?_ _))) <;> (first | omega | (simp <;> omega))) hgrow (by simp; omega) (fun q hq => by cases hq)
  have HI1 : Hid (Has w4 (w2.heap.size + 1) #[.int .i64 0] 3) := Lib.hid (Has.grown (Has.alloc (Has.new' (w2.alloc (.cells #[.int .i64 0] 3)) (w2.heap.size + 1) #[.int .i64 0] 3 (by simp)) _) hgrow (fun q => by cases q))
  have hwl : w.heap.size ≤ w2.heap.size + 1 + 1 + 1 := by have := HB.out.size; omega
  have HG2 : Hid (Own w4 w.heap.size gg 1 cp 1 22 (fun _ => .slice (some ⟨w2.heap.size + 1, 0, none⟩) 1 1)) := Lib.hid (Own.down (Own.of_row hown (fun j hj => by
    obtain rfl : j = 0 := by omega
    rfl)) (by simp; omega))
  have x4 : w4.cell? ⟨gg, 0, none⟩ = some (.slice (some ⟨w2.heap.size + 1, 0, none⟩) 1 1) := HG2.out.cell (by omega)
  replace HB := Lib.hid (HB.out.trans (hb4.mono HB.out.size))
  clear hown hgrow hat hlt hb4 hwl HO HI HZ0 HZ1 HZ2
  rw [rounds_succ]
  go_wp2_with fail
  refine wp_loop_rounds 2 ?_
  rw [rounds_succ]
  go_wp2_with fail
  refine (sort_one _ _ _ _).mono ?_
  rintro e w5 ⟨rfl, rfl⟩
  go_wp2_with fail
  rw [rounds_succ]
  go_wp2_with fail
  go_ret2
  exact ⟨gg, w2.heap.size + 1, cp, rfl, HG2.out, HI1.out, HB.out⟩
end Go.Proofs.YtbeikfopneeodaaGreat
namespace Go.Proofs.YtbeikfopneeodaaGreat
open Go.RowKit
set_option linter.unusedVariables false

/-- a value as it is -/
def asIs (v : Value) : Option (DataW Value × List MemPlace) := some (.held v, [])
theorem asIs_eq {v u : Value} {ps : List MemPlace} (h : asIs v = some (.held u, ps)) : v = u := by
  unfold asIs at h
  injection h with h
  injection h with h
  injection h

theorem own_map_block {H : Type} {w w' : World} {P : Program} {k : TypeId} {R : Value → Option (DataW H × List MemPlace)} {b n : Nat} {D : DataW H} (h : w.ownsMap P k R b n D) (e : w'.heap[b]? = w.heap[b]?) : w'.ownsMap P k R b n D := by
  obtain ⟨es, clock, hb, Ft, hs, hD⟩ := h
  exact ⟨es, clock, e.trans hb, Ft, hs, hD⟩
/-- a look-up in an empty map of bools -/
theorem look_empty {w : World} {b : Nat} (h : w.ownsMap Tryz.prog 3 asIs b 0 (.map [])) : (Instr.lookup 268 (.map (some b)) (.int .i64 1) false).run Tryz.prog w = .ok (.bool false) w := by
  obtain ⟨v, ps, hrun, hv⟩ := h.lookup (Maps.int_keyed Tryz.underlying3) Tryz.underlying268 (Tryz.zeroValue4 w) (zd := .held (.bool false)) (zp := []) rfl (Maps.keyOf_int_mk Tryz.underlying3 (a := 1) (by decide))
  obtain rfl := asIs_eq (u := .bool false) hv
  exact hrun

set_option maxRecDepth 100000 in
theorem set_nil (w : World) : Calls Tryz.prog 156 #[.slice none 0 0] w fun e w' => e = .returned (.map (some w.heap.size)) ∧ w' = w.alloc (.map #[] 0) := by
  have hmm : ∀ w : World, (Instr.makeMap 268 (some (.int .i64 0))).run Tryz.prog w = .ok (.map (some w.heap.size)) (w.alloc (.map #[] 0)) := fun w => by kernel_rfl
  go_enter Tryz.func156, Tryz.ntmps156
  go_wp2_with fail
  clear hmm
  refine wp_loop_rounds 1 ?_
  rw [rounds_succ]
  go_wp2_with fail
  go_ret
  exact ⟨rfl, rfl⟩

set_option maxRecDepth 100000 in
set_option maxHeartbeats 1000000 in
theorem covered_aw (b c l cl : Nat) (w : World) (h : PartAt w w.heap.size b) (hl : LossAt w l) : Calls Tryz.prog 349 #[.agg (awC b c), .slice (some ⟨l, 0, none⟩) 1 cl] w
    fun e w' => ∃ A c1, e = .returned (.slice (some ⟨A, 0, none⟩) 1 c1) ∧ Own w' w.heap.size A 1 c1 1 3 (fun _ => .int .i64 0) ∧ Below w.heap.size w w' := by
  have HP := Lib.hid h
  have HL := Lib.hid (hl.alloc (.cells (awC b c) 54))
  have HLI := Lib.hid loss_info'
  have HTI := Lib.hid (awC_info (b := b) (c := c) ty_info rfl)
  have HB0 := Lib.hid (Has.new w (awC b c) 54)
  clear h hl
  go_enter Tryz.func349, Tryz.ntmps349
  go_wp2_with fail
  refine wp_loop_rounds 2 ?_
  rw [rounds_succ]
  go_wp2_with (first
    | (refine wpList_load_loss ?_ (.tmp 13) ?_ l ?_ HL.out ?_; rfl; rfl; rfl)
    | (refine wpList_store_has ?_ 72 (.tmp 7) (.tmp 14) ?_ (w.heap.size + 1) ?_ lossC ?_ _ _ (Has.new' (w.alloc _) (w.heap.size + 1) zeroL _ (by simp)) HLI.out ?_ ?_ ?_; rfl; rfl; rfl; rfl; rfl; rfl; intro w2 hh hl)
    | (refine wpList_load_has ?_ 54 (.tmp 2) ?_ w.heap.size ?_ _ (awC b c) _ ((HB0.out.alloc _).leaves hl (by omega)) Tryz.underlying54 ?_ HTI.out ?_; rfl; rfl; rfl; rfl)
    | (refine wpList_load_has ?_ 72 (.tmp 7) ?_ (w.heap.size + 1) ?_ _ lossC _ hh Tryz.underlying72 ?_ HLI.out ?_; rfl; rfl; rfl; rfl))
  have hb2 : Below w.heap.size w w2 := Below.trans (b := (w.alloc (.cells (awC b c) 54)).alloc (.cells zeroL 72)) (by (repeat' (first | (with_reducible exact Below.refl _ _) | (with_reducible refine Below.setCell ?_ ?_ _) | (with_reducible refine below_drewN ?_ _) | (with_reducible refine Below.drew ?_) | (with_reducible refine Below.alloc ?_ ?_ _))) <;> (first | omega | (simp <;> omega))) (hl.below (fun k hk => by omega) (by simp; omega))
  have HB := Lib.hid hb2
  have CA := Lib.hid (applies_aw b c w2 (HP.out.later hb2))
  clear hb2 hh hl HL HB0
  refine CA.out.mono ?_
  rintro e w3 ⟨rfl, hb⟩
  replace HB := Lib.hid (HB.out.trans (hb.mono HB.out.size))
  have hs3 := HB.out.size
  clear hb CA
  obtain ⟨i0, hi0, hz0, hz1, hz2⟩ := info_parts i64_info
  have HI := Lib.hid hi0
  have HZ0 := Lib.hid hz0
  have HZ1 := Lib.hid hz1
  have HZ2 := Lib.hid hz2
  clear hi0 hz0 hz1 hz2
  go_upto_region 7 with ((at_builtin; refine wpList_append_lies _ rfl _ _ 22 rfl w.heap.size 3 i0 _ 1 8 Tryz.underlying22 HI.out HZ0.out HZ1.out HZ2.out rfl (by omega) _ 0 [] rfl (own_nil _ _ _ _) ⟨w3.heap.size, 0, none⟩ 1 1 [.int .i64 0] rfl rfl (World.news_of_block (cs := #[.int .i64 0]) (t := 3) (fr := (0, 0)) (heap_alloc_new w3 _)) (by simp [Value.oneCell']) (by omega) (by unfold maxLen; omega) (by omega) (by simp; omega) (w3.heap.size + 1) (by simp) ?_; intro A c1 w4 hown hgrow hat hlt; clear hat hlt))
  have hb := below_app hgrow
  have HA := Lib.hid (Own.one hown)
  replace HB := Lib.hid (HB.out.trans (hb.mono hs3))
  clear hb hown hgrow hs3
  go_wp2_with fail
  rw [rounds_succ]
  go_wp2_with fail
  go_ret
  exact ⟨A, c1, rfl, HA.out, HB.out⟩

set_option maxRecDepth 100000 in
set_option maxHeartbeats 1000000 in
theorem subject_aw (g b c c' C cc : Nat) (w : World) (h : TrAt w g b c) (hC : w.cell? ⟨C, 0, none⟩ = some (.int .i64 0)) (hCl : C < w.heap.size) :
    Calls Tryz.prog 197 #[.slice (some ⟨g, 0, none⟩) 1 c', .int .i64 0, .int .i64 100, .slice (some ⟨C, 0, none⟩) 1 cc] w fun e w' => e = .returned (.int .i64 100) ∧ Below w.heap.size w w' := by
  have HT := Lib.hid h
  have HTI := Lib.hid (awC_info (b := b) (c := c) ty_info rfl)
  have hv1 : Am.validB 100 = true := by decide
  have hv2 : Am.validB 0 = true := by decide
  have HV1 := Lib.hid hv1
  have HV2 := Lib.hid hv2
  clear hv1 hv2 h
  go_enter Tryz.func197, Tryz.ntmps197
  go_wp2_with fail
  refine (valid_any _ _).mono ?_
  rintro e w1 ⟨rfl, rfl⟩
  rw [HV1.out]
  go_wp2_with fail
  refine wp_loop_rounds 2 ?_
  rw [rounds_succ]
  go_wp2_with fail
  refine (valid_any _ _).mono ?_
  rintro e w1 ⟨rfl, rfl⟩
  rw [HV2.out]
  go_wp2_with fail
  rw [rounds_succ]
  have x19 := HT.out.cell19
  go_wp2_with fail
  refine (set_nil _).mono ?_
  rintro e w1 ⟨rfl, rfl⟩
  clear x19
  go_wp2_with fail
  refine wp_loop_rounds 2 ?_
  rw [rounds_succ]
  go_upto_region 14 with (first
    | (refine wpList_load_has ?_ 54 (.tmp 58) ?_ g ?_ _ (awC b c) _ (HT.out.box.alloc _) Tryz.underlying54 ?_ HTI.out ?_; rfl; rfl; rfl; rfl)
    | (refine wpList_store_has ?_ 54 (.tmp 15) (.tmp 59) ?_ (w.heap.size + 1) ?_ (awC b c) ?_ _ _ (Has.new' (w.alloc _) (w.heap.size + 1) zeroT _ (by simp)) HTI.out ?_ ?_ ?_; rfl; rfl; rfl; rfl; rfl; rfl; intro w2 hh hl))
  have hM : w2.ownsMap Tryz.prog 3 asIs w.heap.size 0 (.map []) := own_map_block (World.ownsMap_made w Tryz.prog 3 asIs) ((hl.block w.heap.size (by simp; omega) (by omega)).trans (Below.heap_alloc _ _ _ (by simp)))
  have hlk := look_empty hM
  have hb2 : Below w.heap.size w w2 := Below.trans (b := (w.alloc (.map #[] 0)).alloc (.cells zeroT 54)) (by (repeat' (first | (with_reducible exact Below.refl _ _) | (with_reducible refine Below.setCell ?_ ?_ _) | (with_reducible refine below_drewN ?_ _) | (with_reducible refine Below.drew ?_) | (with_reducible refine Below.alloc ?_ ?_ _))) <;> (first | omega | (simp <;> omega))) (hl.below (fun k hk => by omega) (by simp; omega))
  have HB := Lib.hid hb2
  have x0 : w2.cell? ⟨w.heap.size + 1, 0, none⟩ = some (.int .i64 1) := hh.cell 0
  obtain ⟨G, hG⟩ : ∃ G, w.heap.size = G := ⟨_, rfl⟩
  rw [hG] at hlk x0
  rw [hG]
  clear hM hb2 hh hl hG hC hCl
  go_wp2_with fail
  rw [rounds_succ]
  go_wp2_with fail
  go_ret
  exact ⟨rfl, HB.out⟩
end Go.Proofs.YtbeikfopneeodaaGreat
namespace Go.Proofs.YtbeikfopneeodaaGreat
open Go.RowKit
set_option linter.unusedVariables false

/-- the first that is not 0 -/
def orL : List Int → Int
  | [] => 0
  | a :: l => if a = 0 then orL l else a

theorem orL_drop {zs : List Int} {k : Nat} (h : k < zs.length) : orL (zs.drop k) = if zs.getD k 0 = 0 then orL (zs.drop (k + 1)) else zs.getD k 0 := by
  rw [List.drop_eq_getElem_cons h, orL]
  simp [List.getD, List.getElem?_eq_getElem h]

set_option maxRecDepth 100000 in
set_option maxHeartbeats 1000000 in
theorem or_any (b n c : Nat) (zs : List Int) (w : World) (hn : n = zs.length) (hz : n ≤ 1000) (h : ∀ j, j < zs.length → w.cell? ⟨b, j, none⟩ = some (.int .i64 (zs.getD j 0))) :
    Calls Tryz.prog 169 #[.slice (some ⟨b, 0, none⟩) n c] w fun e w' => e = .returned (.int .i64 (orL zs)) ∧ w = w' := by
  have HN := Lib.hid hn
  have HC := Lib.hid h
  obtain ⟨R, hR⟩ : ∃ R, orL zs = R := ⟨_, rfl⟩
  have HR : Hid (orL (zs.drop 0) = R) := Lib.hid hR
  rw [hR]
  clear h hR hn
  go_enter Tryz.func169, Tryz.ntmps169
  go_wp2_with fail
  go_loop [5, 8] (fun _ i => ∃ k : Nat, k ≤ n ∧ i = .int .i64 k ∧ Hid (orL (zs.drop k) = R)) (fun _ i => n - (intOf i).toNat)
  case atStart => exact ⟨0, Nat.zero_le _, rfl, HR⟩
  case round =>
    clear HR
    obtain ⟨k, hk, rfl, HR⟩ := hrel
    by_cases hlt : k < n
    · have hl : k < zs.length := by rw [← HN.out]; exact hlt
      have hx := HC.out k hl
      have hd := orL_drop hl
      obtain ⟨x, hxx⟩ : ∃ x, zs.getD k 0 = x := ⟨_, rfl⟩
      rw [hxx] at hx hd
      have HD := Lib.hid hd
      have hk0 : (0 : Int) ≤ k := by omega
      have hk1 : (k : Int) < n := by omega
      clear hd hxx
      by_cases e : x = 0
      · subst e
        have HR2 : Hid (orL (zs.drop (k + 1)) = R) := Lib.hid (by rw [← HR.out, HD.out, if_pos rfl])
        clear HR HD
        go_wp2_with fail
        go_round
        case rel => exact ⟨k + 1, by omega, by go_num, HR2⟩
        case measure => simp [intOf]; omega
      · have he : (x != 0) = true := by simp [e]
        have HR2 : Hid (x = R) := Lib.hid (by rw [← HR.out, HD.out, if_neg e])
        clear HR HD e
        go_wp2_with fail
        go_ret
        exact ⟨ret_i64 HR2.out, rfl⟩
    · have hkn : k = n := by omega
      subst hkn
      have HR2 : Hid (0 = R) := Lib.hid (by rw [← HR.out, List.drop_of_length_le (by rw [← HN.out]; exact Nat.le_refl _)]; rfl)
      have hdd : decide ((k : Int) < k) = false := by rw [decide_eq_false_iff_not]; omega
      clear HR
      go_wp2_with fail
      go_ret
      exact ⟨ret_i64 HR2.out, rfl⟩

set_option maxRecDepth 100000 in
theorem nan64 (x : Int) (w : World) : Calls Tryz.prog 293 #[.int .u64 x] w fun e w' => e = .returned (.bool false) ∧ w = w' := by
  go_enter Tryz.func293, Tryz.ntmps293
  go_wp2_with fail
  go_ret
  exact ⟨by simp, rfl⟩
set_option maxRecDepth 100000 in
theorem cmp64 (x y : Int) (w : World) : Calls Tryz.prog 258 #[.int .u64 x, .int .u64 y] w fun e w' => e = .returned (.int .i64 (Lib.compareInt x y)) ∧ w = w' := by
  by_cases h1 : x < y
  · go_enter Tryz.func258, Tryz.ntmps258
    go_wp2_with (go_at_call 293; refine (nan64 _ _).mono ?_; rintro e w' ⟨rfl, rfl⟩)
    go_ret
    exact ⟨ret_i64 (by rw [Lib.compareInt, if_pos (by omega)]), rfl⟩
  · by_cases h2 : y < x
    · go_enter Tryz.func258, Tryz.ntmps258
      go_wp2_with (go_at_call 293; refine (nan64 _ _).mono ?_; rintro e w' ⟨rfl, rfl⟩)
      go_ret
      exact ⟨ret_i64 (by rw [Lib.compareInt, if_neg (by omega), if_pos (by omega)]), rfl⟩
    · go_enter Tryz.func258, Tryz.ntmps258
      go_wp2_with (go_at_call 293; refine (nan64 _ _).mono ?_; rintro e w' ⟨rfl, rfl⟩)
      go_ret
      exact ⟨ret_i64 (by rw [Lib.compareInt, if_neg (by omega), if_neg (by omega)]), rfl⟩

theorem grow3 (w : World) (a b c : Obj) : ((w.alloc a).alloc b).drew.alloc c = Go.Sort.grow (w.drewN 1) #[a, b, c] := by
  rw [Go.Sort.alloc_eq_grow, Go.Sort.alloc_eq_grow, Go.Sort.alloc_eq_grow, Go.Sort.grow_grow]
  show Go.Sort.grow (Go.Sort.grow (w.drewN 1) _) _ = _
  rw [Go.Sort.grow_grow]
  rfl

/-- an entry -/
structure En where
  kind : Int
  treaty : Int
  party : Int
  loss : Int
  amt : Int
deriving DecidableEq, Inhabited
abbrev En.enc (e : En) : List Value := [.int .i64 e.kind, .int .i64 e.treaty, .int .i64 e.party, .int .i64 e.loss, .int .i64 e.amt]
def En.cmp (a b : En) : Int := orL [Lib.compareInt a.kind b.kind, Lib.compareInt a.treaty b.treaty, Lib.compareInt a.party b.party, Lib.compareInt a.loss b.loss]

set_option maxRecDepth 100000 in
set_option maxHeartbeats 2000000 in
theorem encmp_any (a b : En) (w : World) : Calls Tryz.prog 139 #[.agg a.enc.toArray, .agg b.enc.toArray] w fun e w' => e = .returned (.int .i64 (En.cmp a b)) ∧ ∃ q os', w' = Go.Sort.grow (w.drewN q) os' := by
  have HE : Hid (En.cmp a b = orL [Lib.compareInt a.kind b.kind, Lib.compareInt a.treaty b.treaty, Lib.compareInt a.party b.party, Lib.compareInt a.loss b.loss]) := Lib.hid rfl
  have CC := Lib.hid (fun x y (w : World) => Tryz.cmp_Compare_int x y w)
  go_enter Tryz.func139, Tryz.ntmps139
  go_wp2_with fail
  obtain ⟨c1, h1⟩ : ∃ c, Lib.compareInt a.kind b.kind = c := ⟨_, rfl⟩
  obtain ⟨c2, h2⟩ : ∃ c, Lib.compareInt a.treaty b.treaty = c := ⟨_, rfl⟩
  obtain ⟨c3, h3⟩ : ∃ c, Lib.compareInt a.party b.party = c := ⟨_, rfl⟩
  obtain ⟨c4, h4⟩ : ∃ c, Lib.compareInt a.loss b.loss = c := ⟨_, rfl⟩
  rw [h1, h2, h3, h4] at HE
  have C1 := CC.out a.kind b.kind
  have C2 := CC.out a.treaty b.treaty
  have C3 := CC.out a.party b.party
  have C4 := CC.out a.loss b.loss
  rw [h1] at C1
  rw [h2] at C2
  rw [h3] at C3
  rw [h4] at C4
  replace C1 := Lib.hid C1
  replace C2 := Lib.hid C2
  replace C3 := Lib.hid C3
  replace C4 := Lib.hid C4
  clear h1 h2 h3 h4 CC
  have HA := Lib.hid ((Has.new w a.enc.toArray 99).alloc (.cells b.enc.toArray 99))
  have HB := Lib.hid (Has.new' (w.alloc (.cells a.enc.toArray 99)) (w.heap.size + 1) b.enc.toArray 99 (by simp))
  obtain ⟨W, hW⟩ : ∃ W, (w.alloc (.cells a.enc.toArray 99)).alloc (.cells b.enc.toArray 99) = W := ⟨_, rfl⟩
  rw [hW] at HA HB ⊢
  have HWW := Lib.hid hW
  obtain ⟨a0, a1, a2⟩ := HA.out.rules
  obtain ⟨b0, b1, b2⟩ := HB.out.rules
  obtain ⟨G, hG⟩ : ∃ G, w.heap.size = G := ⟨_, rfl⟩
  rw [hG] at a0 a1 a2 b0 b1 b2
  rw [hG]
  clear hW hG
  refine wp_region_still_tail 20 (by kernel_rfl) (by kernel_rfl) ?_
  simp only [List.take_succ_cons, List.take_zero, List.drop_succ_cons, List.drop_zero]
  repeat (first | still_step | (refine wpStill_step (fun K hK => ?_); go_simp; (with_reducible refine ⟨_, C1.out _, hK _ ?_⟩); clear hK K) | (refine wpStill_step (fun K hK => ?_); go_simp; (with_reducible refine ⟨_, C2.out _, hK _ ?_⟩); clear hK K) | (refine wpStill_step (fun K hK => ?_); go_simp; (with_reducible refine ⟨_, C3.out _, hK _ ?_⟩); clear hK K) | (refine wpStill_step (fun K hK => ?_); go_simp; (with_reducible refine ⟨_, C4.out _, hK _ ?_⟩); clear hK K))
  try refine wpStill_nil ?_
  change wpList _ _ _ _ _ W.drew
  clear C1 C2 C3 C4
  have HO : Hid (Has (W.drew.alloc (.cells #[.int .i64 c1, .int .i64 c2, .int .i64 c3, .int .i64 c4] 3)) W.heap.size #[.int .i64 c1, .int .i64 c2, .int .i64 c3, .int .i64 c4] 3) := Lib.hid (Has.new' W.drew W.heap.size _ _ rfl)
  obtain ⟨V, hV⟩ : ∃ V, W.drew = V := ⟨_, rfl⟩
  obtain ⟨Q, hQ⟩ : ∃ Q, W.heap.size = Q := ⟨_, rfl⟩
  have hVs : V.heap.size = Q := by rw [← hV]; exact hQ
  rw [hV, hQ] at HO
  rw [hV]
  have HV := Lib.hid hV
  have HVS := Lib.hid hVs
  clear hV hQ hVs
  go_wp2_with fail
  rw [HVS.out]
  refine (or_any Q 4 4 [c1, c2, c3, c4] _ rfl (by omega) (fun j hj => ?_)).mono ?_
  · rw [HO.out.cell]
    have hj : j < 4 := hj
    match j, hj with
    | 0, _ | 1, _ | 2, _ | 3, _ => rfl
  rintro e w' ⟨rfl, rfl⟩
  rw [← HE.out]
  go_wp2_with fail
  go_ret
  exact ⟨rfl, 1, _, by rw [← HV.out, ← HWW.out]; exact grow3 _ _ _ _⟩
end Go.Proofs.YtbeikfopneeodaaGreat
namespace Go.Proofs.YtbeikfopneeodaaGreat
open Go.RowKit
set_option linter.unusedVariables false

theorem grow1 (w : World) (a : Obj) : w.drew.alloc a = Go.Sort.grow (w.drewN 1) #[a] := by
  rw [Go.Sort.alloc_eq_grow]
  rfl
def remCmp (r : Nat → Int) (i j : Nat) : Int := orL [Lib.compareInt (r j) (r i), Lib.compareInt i j]

set_option maxRecDepth 100000 in
set_option maxHeartbeats 2000000 in
theorem remcmp_any (B R n i j : Nat) (r : Nat → Int) (w : World) (hi : i < n) (hj : j < n) (hn : n ≤ 1000) (hB : w.cell? ⟨B, 0, none⟩ = some (.slice (some ⟨R, 0, none⟩) n n)) (hR : ∀ k, k < n → w.cell? ⟨R, k, none⟩ = some (.int .u64 (r k))) :
    Calls Tryz.prog 257 #[.int .i64 i, .int .i64 j, .pointer (some ⟨B, 0, none⟩)] w fun e w' => e = .returned (.int .i64 (remCmp r i j)) ∧ ∃ q os', w' = Go.Sort.grow (w.drewN q) os' := by
  have HE : Hid (remCmp r i j = orL [Lib.compareInt (r j) (r i), Lib.compareInt i j]) := Lib.hid rfl
  have x1 := hR i hi
  have x2 := hR j hj
  obtain ⟨ri, hri⟩ : ∃ x, r i = x := ⟨_, rfl⟩
  obtain ⟨rj, hrj⟩ : ∃ x, r j = x := ⟨_, rfl⟩
  rw [hri] at x1 HE
  rw [hrj] at x2 HE
  have C1 := fun (w : World) => cmp64 rj ri w
  have C2 := fun (w : World) => Tryz.cmp_Compare_int i j w
  obtain ⟨c1, h1⟩ : ∃ c, Lib.compareInt rj ri = c := ⟨_, rfl⟩
  obtain ⟨c2, h2⟩ : ∃ c, Lib.compareInt i j = c := ⟨_, rfl⟩
  rw [h1] at C1 HE
  rw [h2] at C2 HE
  replace C1 : Hid (∀ w : World, Calls Tryz.prog 258 #[.int .u64 rj, .int .u64 ri] w fun e w' => e = .returned (.int .i64 c1) ∧ w' = w) := Lib.hid fun w => (C1 w).mono fun _ _ ⟨h1, h2⟩ => ⟨h1, h2.symm⟩
  replace C2 := Lib.hid C2
  have hi0 : (0 : Int) ≤ i := by omega
  have hi1 : (i : Int) < n := by omega
  have hj0 : (0 : Int) ≤ j := by omega
  have hj1 : (j : Int) < n := by omega
  clear h1 h2 hri hrj hR
  go_enter Tryz.func257, Tryz.ntmps257
  go_wp2_with fail
  refine wp_region_still_tail 12 (by kernel_rfl) (by kernel_rfl) ?_
  simp only [List.take_succ_cons, List.take_zero, List.drop_succ_cons, List.drop_zero]
  repeat (first | still_step | (refine wpStill_step (fun K hK => ?_); go_simp; (with_reducible refine ⟨_, C1.out _, hK _ ?_⟩); clear hK K) | (refine wpStill_step (fun K hK => ?_); go_simp; (with_reducible refine ⟨_, C2.out _, hK _ ?_⟩); clear hK K))
  try refine wpStill_nil ?_
  change wpList _ _ _ _ _ w.drew
  clear C1 C2
  have HO : Hid (Has (w.drew.alloc (.cells #[.int .i64 c1, .int .i64 c2] 3)) w.heap.size #[.int .i64 c1, .int .i64 c2] 3) := Lib.hid (Has.new' w.drew w.heap.size _ _ rfl)
  obtain ⟨V, hV⟩ : ∃ V, w.drew = V := ⟨_, rfl⟩
  obtain ⟨Q, hQ⟩ : ∃ Q, w.heap.size = Q := ⟨_, rfl⟩
  have hVs : V.heap.size = Q := by rw [← hV]; exact hQ
  rw [hV, hQ] at HO
  rw [hV]
  have HV := Lib.hid hV
  have HVS := Lib.hid hVs
  clear hV hQ hVs
  go_wp2_with fail
  rw [HVS.out]
  refine (or_any Q 2 2 [c1, c2] _ rfl (by omega) (fun j hj => ?_)).mono ?_
  · rw [HO.out.cell]
    have hj : j < 2 := hj
    match j, hj with
    | 0, _ | 1, _ => rfl
  rintro e w' ⟨rfl, rfl⟩
  rw [← HE.out]
  go_wp2_with fail
  go_ret
  exact ⟨rfl, 1, _, by rw [← HV.out]; exact grow1 _ _⟩
end Go.Proofs.YtbeikfopneeodaaGreat
