/- excess.Validate and the reference's Indices: the first fault of a table. The example of the offices, first part: its treaty, and inuring.Validate at it. The example of the offices: programme.Validate, inuring.Order. -/
import Derived.Test.YtbeikfopneeodaaGreatMt04
import Derived.Test.YtbeikfopneeodaaGreatMt01
import Derived.Deep.QuietTactic
import Derived.BigQuiet
import Derived.Test.YtbeikfopneeodaaGreatMt08
import Derived.Test.YtbeikfopneeodaaGreatMt02
import Derived.Lib.SliceRun
namespace Go.Proofs.YtbeikfopneeodaaGreat
open Go.RowKit

theorem Ex.ic_bad {f g : Nat → Int} {i : Nat} (h : ¬ (Ex.hourP (f i) ∧ Ex.idxP (g i))) : Ex.ic f g i = 1 := if_pos h
theorem Ex.ic_order {f g : Nat → Int} {i : Nat} (h : Ex.hourP (f i) ∧ Ex.idxP (g i)) (h2 : 0 < i ∧ f i ≤ f (i - 1)) : Ex.ic f g i = 13 := by rw [Ex.ic, if_neg (fun c => c h), if_pos h2]
theorem Ex.ic_fine {f g : Nat → Int} {i : Nat} (h : Ex.hourP (f i) ∧ Ex.idxP (g i)) (h2 : ¬ (0 < i ∧ f i ≤ f (i - 1))) : Ex.ic f g i = 0 := by rw [Ex.ic, if_neg (fun c => c h), if_neg h2]

set_option maxHeartbeats 1000000 in
theorem exvalidate_any (A : Option Addr) (n c : Nat) (f g : Nat → Int) (w : World) (hn : n ≤ 9223372036854775807) (h : Pairs w w.heap.size A n f g) :
    Calls Tryz.prog 36 #[.slice A n c] w (IntPost (Ex.ierr n f g) w) := by
  by_cases hl : 100 < n
  · have e : Ex.ierr n f g = 4 := if_pos hl
    rw [e]
    clear h e
    go_enter Tryz.func36, Tryz.ntmps36
    go_wp2
    go_ret
    exact ⟨rfl, Below.refl _ _⟩
  have hl' : n ≤ 100 := by omega
  obtain ⟨r, hr⟩ : ∃ r, Ex.ierr n f g = r := ⟨_, rfl⟩
  have HR : Hid (scan (Ex.ic f g) (n - 0) 0 = r) := Lib.hid (by rw [← hr, Ex.ierr, if_neg hl]; rfl)
  rw [hr]
  have H := Lib.hid h
  clear hl hr h hn
  go_enter Tryz.func36, Tryz.ntmps36
  go_wp2
  go_loopw [3, 4, 10] (fun _ _ i wr => ∃ k : Nat, k ≤ n ∧ i = .int .i64 k ∧ Hid (scan (Ex.ic f g) (n - k) k = r) ∧ Hid (Below w.heap.size w wr)) (fun _ _ i _ => n - (intOf i).toNat)
  case atStart => exact ⟨0, Nat.zero_le _, rfl, HR, Lib.hid (Below.refl _ _)⟩
  case round =>
    obtain ⟨k, hk, rfl, HS, HB⟩ := hrel
    have hs := HB.out.size
    by_cases hlt : k < n
    · obtain ⟨b, o, rfl, had, hc0, hc1⟩ := ((H.out.below HB.out).mono hs).get hlt
      obtain ⟨x, hx⟩ : ∃ x, f k = x := ⟨_, rfl⟩
      obtain ⟨y, hy⟩ : ∃ y, g k = y := ⟨_, rfl⟩
      rw [hx] at hc0
      rw [hy] at hc1
      have HX := Lib.hid hx
      have HY := Lib.hid hy
      clear hx hy
      by_cases hh : 0 ≤ x ∧ x ≤ 876599
      · obtain ⟨hh0, hh1⟩ := hh
        by_cases hi : 1 ≤ y ∧ y ≤ 1000000000
        · obtain ⟨hi0, hi1⟩ := hi
          have hP : Ex.hourP (f k) ∧ Ex.idxP (g k) := by rw [HX.out, HY.out]; exact ⟨⟨hh0, hh1⟩, hi0, hi1⟩
          have HP := Lib.hid hP
          clear hP
          cases k with
          | zero =>
            have HG : Hid (scan (Ex.ic f g) (n - (0 + 1)) (0 + 1) = r) := Lib.hid (by rw [← scan_go _ hlt (Ex.ic_fine HP.out (by omega))]; exact HS.out)
            clear HP HX HY HS
            simp only [Nat.zero_mul, Nat.add_zero] at hc0 hc1
            go_wp2_with (first | (go_at_call 56; refine (exwithin_any _ _ _ _).mono ?_; rintro e w' ⟨rfl, rfl⟩))
            go_quiet (fail)
            go_wp2_with fail
            go_roundw
            case rel => exact ⟨0 + 1, by omega, rfl, HG, Lib.hid (below_drewN (HB.out.alloc hs _) _)⟩
            case measure => simp [intOf]; omega
          | succ j =>
            obtain ⟨b', o', e', _, hp0, _⟩ := ((H.out.below HB.out).mono hs).get (j := j) (by omega)
            simp only [Option.some.injEq, Addr.mk.injEq, and_true] at e'
            obtain ⟨rfl, rfl⟩ := e'
            obtain ⟨p, hp⟩ : ∃ p, f j = p := ⟨_, rfl⟩
            rw [hp] at hp0
            have HPP := Lib.hid hp
            have hw : IntKind.i64.wrap (((j + 1 : Nat) : Int) - 1) = j := by rw [IntKind.wrap_i64]; omega
            have hj0 : (0 : Int) ≤ j := by omega
            have hj1 : (j : Int) < n := by omega
            clear hp
            by_cases ho : x ≤ p
            · have HG : Hid (13 = r) := Lib.hid (by rw [← HS.out, scan_stop _ hlt (by rw [Ex.ic_order HP.out ⟨by omega, by rw [HX.out, Nat.add_sub_cancel, HPP.out]; exact ho⟩]; omega), Ex.ic_order HP.out ⟨by omega, by rw [HX.out, Nat.add_sub_cancel, HPP.out]; exact ho⟩])
              clear HP HX HY HS HPP
              go_wp2_with (first | (go_at_call 56; refine (exwithin_any _ _ _ _).mono ?_; rintro e w' ⟨rfl, rfl⟩))
              go_quiet (fail)
              go_wp2_with fail
              go_ret
              exact ⟨ret_i64 HG.out, below_drewN (HB.out.alloc hs _) _⟩
            · have HG : Hid (scan (Ex.ic f g) (n - (j + 1 + 1)) (j + 1 + 1) = r) := Lib.hid (by rw [← scan_go _ hlt (Ex.ic_fine HP.out (by rw [HX.out, Nat.add_sub_cancel, HPP.out]; omega))]; exact HS.out)
              clear HP HX HY HS HPP
              go_wp2_with (first | (go_at_call 56; refine (exwithin_any _ _ _ _).mono ?_; rintro e w' ⟨rfl, rfl⟩))
              go_quiet (fail)
              go_wp2_with fail
              go_roundw
              case rel => exact ⟨j + 1 + 1, by omega, by go_num, HG, Lib.hid (below_drewN (HB.out.alloc hs _) _)⟩
              case measure => simp [intOf]; omega
        · have hP : ¬ (Ex.hourP (f k) ∧ Ex.idxP (g k)) := by rw [HX.out, HY.out]; unfold Ex.idxP; omega
          have HG : Hid (1 = r) := Lib.hid (by rw [← HS.out, scan_stop _ hlt (by rw [Ex.ic_bad hP]; omega), Ex.ic_bad hP])
          have hd : decide (1 ≤ y ∧ y ≤ 1000000000) = false := by rw [decide_eq_false_iff_not]; exact hi
          clear hP HX HY HS hi
          go_wp2_with (first | (go_at_call 56; refine (exwithin_any _ _ _ _).mono ?_; rintro e w' ⟨rfl, rfl⟩))
          go_ret
          exact ⟨ret_i64 HG.out, HB.out.alloc hs _⟩
      · have hP : ¬ (Ex.hourP (f k) ∧ Ex.idxP (g k)) := by rw [HX.out, HY.out]; unfold Ex.hourP; omega
        have HG : Hid (1 = r) := Lib.hid (by rw [← HS.out, scan_stop _ hlt (by rw [Ex.ic_bad hP]; omega), Ex.ic_bad hP])
        have hd : decide (0 ≤ x ∧ x ≤ 876599) = false := by rw [decide_eq_false_iff_not]; exact hh
        clear hP HX HY HS hh
        go_wp2_with (first | (go_at_call 56; refine (exwithin_any _ _ _ _).mono ?_; rintro e w' ⟨rfl, rfl⟩))
        go_ret
        exact ⟨ret_i64 HG.out, HB.out.alloc hs _⟩
    · obtain rfl : k = n := by omega
      have HE : Hid (0 = r) := Lib.hid (by rw [← HS.out, scan_end])
      go_wp2
      go_ret
      exact ⟨ret_i64 HE.out, HB.out⟩

end Go.Proofs.YtbeikfopneeodaaGreat
namespace Go.Proofs.YtbeikfopneeodaaGreat
open Go.RowKit
set_option linter.unusedVariables false

/-- the treaty of the example; its participation lies in block b -/
def awT (b c : Nat) : Ty := ⟨1, 1, 0, 100, 0, 500000, 0, 0, 0, 0, 0, 0, 0, 0, false, 0, none, 0, 0, fun _ => 0, none, 0, 0, fun _ => 0, none, 0, 0, fun _ => 0, none, 0, 0, fun _ => 0, some ⟨b, 0, none⟩, 1, c, fun _ => 2, fun _ => 1000000⟩
/-- its cells -/
def awC (b c : Nat) : Array Value := #[.int .i64 1, .int .i64 1, .int .i64 0, .int .i64 100, .slice none 0 0, .slice none 0 0, .int .i64 0, .int .i64 500000, .int .i64 0, .int .i64 0,
    .int .i64 0, .int .i64 0, .int .i64 0, .int .i64 0, .int .i64 0, .int .i64 0, .slice none 0 0, .bool false, .int .i64 0, .slice none 0 0, .slice (some ⟨b, 0, none⟩) 1 c]
theorem awT_cells (b c : Nat) : (awT b c).cells = awC b c := rfl
theorem awC_size (b c : Nat) : (awC b c).size = 21 := rfl
theorem awC_one (b c : Nat) : (awC b c).toList.all (·.oneCell') = true := rfl
set_option maxRecDepth 100000 in
theorem awT_err0 : (awT 0 0).err = 0 := by decide +kernel
theorem awT_err (b c : Nat) : (awT b c).err = 0 := awT_err0
/-- the participation lies there -/
def PartAt (w : World) (B b : Nat) : Prop := Pairs w B (some ⟨b, 0, none⟩) 1 (fun _ => 2) (fun _ => 1000000)
/-- the treaty lies in block g, the participation in block b -/
structure TrAt (w : World) (g b c : Nat) : Prop where
  box : Has w g (awC b c) 54
  part : PartAt w w.heap.size b
theorem PartAt.below {w w' : World} {B b : Nat} (h : PartAt w B b) (hb : Below B w w') : PartAt w' B b := Cells.below h hb
theorem PartAt.mono {w : World} {B B' b : Nat} (h : PartAt w B b) (hB : B ≤ B') : PartAt w B' b := Cells.mono h hB
theorem PartAt.later {w w' : World} {b : Nat} (h : PartAt w w.heap.size b) (hb : Below w.heap.size w w') : PartAt w' w'.heap.size b := (h.below hb).mono hb.size
theorem TrAt.later {w w' : World} {g b c : Nat} (h : TrAt w g b c) (hb : Below w.heap.size w w') : TrAt w' g b c := ⟨h.box.below hb h.box.lt, h.part.later hb⟩
theorem TrAt.drewN {w : World} {g b c : Nat} (h : TrAt w g b c) (n : Nat) : TrAt (w.drewN n) g b c := ⟨h.box, h.part⟩
theorem TrAt.cell19 {w : World} {g b c : Nat} (h : TrAt w g b c) : w.cell? ⟨g, 19, none⟩ = some (.slice none 0 0) := h.box.cell 19
theorem aw19 {w : World} {g b c : Nat} (h : Has w g (awC b c) 54) : w.cell? ⟨g, 19, none⟩ = some (.slice none 0 0) := h.cell 19
theorem awT_in {w : World} {B b c : Nat} (h : PartAt w B b) : (awT b c).In w B :=
  ⟨Cells.zero, Cells.zero, Cells.zero, Cells.zero, h, by show 0 ≤ _; omega, by show 0 ≤ _; omega, by show 0 ≤ _; omega, by show 0 ≤ _; omega, by show 1 ≤ _; omega⟩
theorem awC_info {n : Nat} {b c : Nat} (h : (Tryz.prog.info? 54).map (·.size) = some n) (hn : n = 21) : (Tryz.prog.info? 54).map (·.size) = some (awC b c).size := by rw [awC_size, ← hn]; exact h

theorem awvalid (b c : Nat) (w : World) (h : PartAt w w.heap.size b) : Calls Tryz.prog 57 #[.agg (awC b c)] w (IntPost 0 w) := by
  have := validate_any (awT b c) w (awT_in h)
  rw [awT_err, awT_cells] at this
  exact this

set_option maxRecDepth 100000 in
theorem mk_int1 (w : World) : (Instr.makeSlice 22 (.int .i64 1) (.int .i64 1)).run Tryz.prog w = .ok (.slice (some ⟨w.heap.size, 0, none⟩) 1 1) (w.alloc (.cells #[.int .i64 0] 3)) := by kernel_rfl

/-- a treaty's zero -/
def zeroT : Array Value := #[.int .i64 0, .int .i64 0, .int .i64 0, .int .i64 0, .slice none 0 0, .slice none 0 0, .int .i64 0, .int .i64 0, .int .i64 0, .int .i64 0, .int .i64 0, .int .i64 0, .int .i64 0, .int .i64 0, .int .i64 0, .int .i64 0, .slice none 0 0, .bool false, .int .i64 0, .slice none 0 0, .slice none 0 0]

set_option maxRecDepth 100000 in
set_option maxHeartbeats 1000000 in
theorem cyclic_aw (g b c c' s : Nat) (w : World) (h : TrAt w g b c) (hs : Has w s #[.int .i64 0] 3) : Calls Tryz.prog 59 #[.slice (some ⟨g, 0, none⟩) 1 c', .int .i64 0, .slice (some ⟨s, 0, none⟩) 1 1] w
    fun e w' => e = .returned (.bool false) ∧ w' = (w.setCell ⟨s, 0, none⟩ (.int .i64 1)).setCell ⟨s, 0, none⟩ (.int .i64 2) := by
  have x18 : w.cell? ⟨g, 19, none⟩ = some (.slice none 0 0) := h.box.cell 19
  obtain ⟨f0, f1, f2⟩ := hs.rules
  have hne : g ≠ s := by
    intro e
    subst e
    have h1 := h.box
    unfold Has at h1 hs
    rw [h1] at hs
    injection hs with hs
    injection hs with hs
    have := congrArg Array.size hs
    simp [awC] at this
  go_enter Tryz.func59, Tryz.ntmps59
  go_wp2_with fail
  refine wp_loop_rounds 1 ?_
  rw [rounds_succ]
  go_wp2_with fail
  go_ret
  exact ⟨rfl, rfl⟩

set_option maxRecDepth 100000 in
set_option maxHeartbeats 1000000 in
theorem ivalid_aw (g b c c' : Nat) (w : World) (h : TrAt w g b c) : Calls Tryz.prog 37 #[.slice (some ⟨g, 0, none⟩) 1 c'] w (IntPost 0 w) := by
  have HT := Lib.hid h
  have HTI := Lib.hid (awC_info (b := b) (c := c) ty_info rfl)
  go_enter Tryz.func37, Tryz.ntmps37
  go_wp2_with fail
  refine wp_loop_rounds 2 ?_
  rw [rounds_succ]
  go_wp2_with (first
    | (refine wpList_load_has ?_ 54 (.tmp 24) ?_ g ?_ _ (awC b c) _ HT.out.box Tryz.underlying54 ?_ HTI.out ?_; rfl; rfl; rfl; rfl)
    | (refine wpList_store_has ?_ 54 (.tmp 4) (.tmp 25) ?_ w.heap.size ?_ (awC b c) ?_ _ _ (Has.new w zeroT _) HTI.out ?_ ?_ ?_; rfl; rfl; rfl; rfl; rfl; rfl; intro w1 hh hl)
    | (refine wpList_load_has ?_ 54 (.tmp 4) ?_ w.heap.size ?_ _ (awC b c) _ hh Tryz.underlying54 ?_ HTI.out ?_; rfl; rfl; rfl; rfl))
  have hb1 : Below w.heap.size w w1 := ((Below.refl _ _).alloc (Nat.le_refl _) _).trans (hl.below (fun k hk => by omega) (by simp))
  have HB := Lib.hid hb1
  replace HT := Lib.hid (HT.out.later hb1)
  have HV := Lib.hid (awvalid b c w1 HT.out.part)
  have HH := Lib.hid hh
  obtain ⟨G, hG⟩ : ∃ G, w.heap.size = G := ⟨_, rfl⟩
  clear hb1 hh hl
  refine HV.out.mono ?_
  rintro e w2 ⟨rfl, hb⟩
  replace HB := Lib.hid (HB.out.trans (hb.mono HB.out.size))
  replace HT := Lib.hid (HT.out.later hb)
  replace HH := Lib.hid (HH.out.below hb HH.out.lt)
  clear hb HV h
  go_wp2_with fail
  go_quiet (fail)
  replace HB := Lib.hid (below_drewN HB.out nq)
  replace HT := Lib.hid (HT.out.drewN nq)
  obtain ⟨w3, hw3⟩ : ∃ W, w2.drewN nq = W := ⟨_, rfl⟩
  rw [hw3] at HB HT ⊢
  clear hw3 HH hG
  go_wp2_with fail
  rw [rounds_succ]
  go_wp2_with fail
  refine wp_loop_rounds 2 ?_
  rw [rounds_succ]
  go_wp2_with (first
    | (refine wpList_load_has ?_ 54 (.tmp 49) ?_ g ?_ _ (awC b c) _ HT.out.box Tryz.underlying54 ?_ HTI.out ?_; rfl; rfl; rfl; rfl)
    | ((refine wpList_store_has ?_ 54 (.tmp 7) (.tmp 50) ?_ w3.heap.size ?_ (awC b c) ?_ _ _ (Has.new w3 zeroT _) HTI.out ?_ ?_ ?_; rfl; rfl; rfl; rfl; rfl; rfl; intro w4 hh hl); have x19 := aw19 hh))
  have hb4 : Below w3.heap.size w3 w4 := ((Below.refl _ _).alloc (Nat.le_refl _) _).trans (hl.below (fun k hk => by omega) (by simp))
  replace HB := Lib.hid (HB.out.trans (hb4.mono HB.out.size))
  replace HT := Lib.hid (HT.out.later hb4)
  clear hb4 hh hl x19
  refine wp_loop_rounds 1 ?_
  rw [rounds_succ]
  go_wp2_with fail
  rw [rounds_succ]
  have hmk := mk_int1
  go_wp2_with fail
  clear hmk
  refine wp_loop_rounds 2 ?_
  rw [rounds_succ]
  go_wp2_with fail
  refine (cyclic_aw g b c c' w4.heap.size _ (HT.out.later ((Below.refl _ _).alloc (Nat.le_refl _) _)) (Has.new w4 _ _)).mono ?_
  rintro e w5 ⟨rfl, hw5⟩
  have hb5 : Below w4.heap.size w4 w5 := by
    rw [hw5]
    exact (((Below.refl _ _).alloc (Nat.le_refl _) _).setCell (p := ⟨w4.heap.size, 0, none⟩) (Nat.le_refl _) _).setCell (p := ⟨w4.heap.size, 0, none⟩) (Nat.le_refl _) _
  replace HB := Lib.hid (HB.out.trans (hb5.mono HB.out.size))
  replace HT := Lib.hid (HT.out.later hb5)
  clear hb5 hw5
  go_wp2_with fail
  rw [rounds_succ]
  go_wp2_with fail
  refine wp_loop_rounds 2 ?_
  rw [rounds_succ]
  go_wp2_with (first
    | (refine wpList_load_has ?_ 54 (.tmp 82) ?_ g ?_ _ (awC b c) _ HT.out.box Tryz.underlying54 ?_ HTI.out ?_; rfl; rfl; rfl; rfl)
    | (refine wpList_store_has ?_ 54 (.tmp 13) (.tmp 83) ?_ w5.heap.size ?_ (awC b c) ?_ _ _ (Has.new w5 zeroT _) HTI.out ?_ ?_ ?_; rfl; rfl; rfl; rfl; rfl; rfl; intro w6 hh hl))
  have hb6 : Below w5.heap.size w5 w6 := ((Below.refl _ _).alloc (Nat.le_refl _) _).trans (hl.below (fun k hk => by omega) (by simp))
  replace HB := Lib.hid (HB.out.trans (hb6.mono HB.out.size))
  clear hb6 hh hl
  refine wp_loop_rounds 1 ?_
  rw [rounds_succ]
  go_wp2_with fail
  rw [rounds_succ]
  go_wp2_with fail
  go_ret
  exact ⟨rfl, HB.out⟩
end Go.Proofs.YtbeikfopneeodaaGreat
namespace Go.Proofs.YtbeikfopneeodaaGreat
open Go.RowKit
set_option linter.unusedVariables false

theorem xval_nil (w : World) : Calls Tryz.prog 35 #[.slice none 0 0] w fun e w' => e = .returned (.int .i64 0) ∧ w = w' := by
  go_enter Tryz.func35, Tryz.ntmps35
  go_wp2_with fail
  refine wp_loop_rounds 1 ?_
  rw [rounds_succ]
  go_wp2_with fail
  go_ret
  exact ⟨rfl, rfl⟩
theorem exval_nil (w : World) : Calls Tryz.prog 36 #[.slice none 0 0] w (IntPost 0 w) := exvalidate_any none 0 0 (fun _ => 0) (fun _ => 0) w (by omega) Cells.zero

/-- the programme of the example -/
def awP (g c : Nat) : Array Value := #[.int .i64 0, .slice (some ⟨g, 0, none⟩) 1 c, .slice none 0 0, .slice none 0 0]

set_option maxRecDepth 100000 in
set_option maxHeartbeats 1000000 in
theorem pvalid_aw (g b c c' : Nat) (w : World) (h : TrAt w g b c) : Calls Tryz.prog 25 #[.agg (awP g c')] w (IntPost 0 w) := by
  have HT := Lib.hid h
  have HB := Lib.hid (Has.new w (awP g c') 59)
  unfold awP
  go_enter Tryz.func25, Tryz.ntmps25
  go_wp2_with fail
  refine (xval_nil _).mono ?_
  rintro e w1 ⟨rfl, rfl⟩
  go_wp2_with fail
  refine (exval_nil _).mono ?_
  rintro e w1 ⟨rfl, hb⟩
  have HB1 : Hid (Below w.heap.size w w1) := Lib.hid (((Below.refl _ _).alloc (Nat.le_refl _) _).trans (hb.mono (by simp)))
  replace HT := Lib.hid (HT.out.later HB1.out)
  have HP : Hid (Has w1 w.heap.size (awP g c') 59) := Lib.hid (HB.out.below hb (by simp))
  clear hb HB h
  obtain ⟨G, hG⟩ : ∃ G, w.heap.size = G := ⟨_, rfl⟩
  have x1 : w1.cell? ⟨w.heap.size, 1, none⟩ = some (.slice (some ⟨g, 0, none⟩) 1 c') := HP.out.cell 1
  rw [hG] at x1
  rw [hG]
  clear hG
  go_wp2_with fail
  refine (ivalid_aw g b c c' w1 HT.out).mono ?_
  rintro e w2 ⟨rfl, hb⟩
  go_wp2_with fail
  go_ret
  exact ⟨rfl, HB1.out.trans (hb.mono HB1.out.size)⟩

theorem minfunc_one (b c : Nat) (fv : Value) (x : Int) (w : World) (h : w.cell? ⟨b, 0, none⟩ = some (.int .i64 x)) : Calls Tryz.prog 228 #[.slice (some ⟨b, 0, none⟩) 1 c, fv] w fun e w' => e = .returned (.int .i64 x) ∧ w = w' := by
  go_enter Tryz.func228, Tryz.ntmps228
  go_wp2_with fail
  refine wp_loop_rounds 1 ?_
  rw [rounds_succ]
  go_wp2_with fail
  go_ret
  exact ⟨rfl, rfl⟩

set_option maxRecDepth 100000 in
theorem ord_clos (n b : Nat) (w : World) (h : w.cell? ⟨b, 0, none⟩ = some (.int .i64 n)) : Calls Tryz.prog 230 #[.int .i64 n, .pointer (some ⟨b, 0, none⟩)] w fun e w' => e = .returned (.bool true) ∧ w = w' := by
  go_enter Tryz.func230, Tryz.ntmps230
  go_wp2_with fail
  go_ret
  exact ⟨rfl, rfl⟩

theorem index_one (s n : Nat) (w : World) (hs : w.cell? ⟨s, 0, none⟩ = some (.int .i64 0)) (hn : w.cell? ⟨n, 0, none⟩ = some (.int .i64 0)) :
    Calls Tryz.prog 190 #[.slice (some ⟨s, 0, none⟩) 1 1, .func (.func 230) #[] #[.pointer (some ⟨n, 0, none⟩)]] w fun e w' => e = .returned (.int .i64 0) ∧ w = w' := by
  go_enter Tryz.func190, Tryz.ntmps190
  go_wp2_with fail
  refine wp_loop_rounds 1 ?_
  rw [rounds_succ]
  go_wp2_with (go_at_call 230; refine (ord_clos 0 n _ hn).mono ?_; rintro e w' ⟨rfl, rfl⟩)
  go_ret
  exact ⟨rfl, rfl⟩

set_option maxRecDepth 100000 in
set_option maxHeartbeats 1000000 in
theorem delete_one (s n : Nat) (w : World) (hs : Has w s #[.int .i64 0] 3) (hn : w.cell? ⟨n, 0, none⟩ = some (.int .i64 0)) :
    Calls Tryz.prog 229 #[.slice (some ⟨s, 0, none⟩) 1 1, .func (.func 230) #[] #[.pointer (some ⟨n, 0, none⟩)]] w fun e w' => e = .returned (.slice (some ⟨s, 0, none⟩) 0 1) ∧ w' = w.setCell ⟨s, 0, none⟩ (.int .i64 0) := by
  have hcl : ∀ ty, (Builtin.clear_ #[22] ty #[.slice (some ⟨s, 0, none⟩) 1 1]).run Tryz.prog w = .ok (.tuple #[]) (w.setCell ⟨s, 0, none⟩ (.int .i64 0)) := fun ty =>
    Lib.run_clear_slice w _ _ ty _ Tryz.underlying22 Tryz.zeroValue3 rfl rfl s 0 1 1 (by omega) (fun j hj => by (obtain rfl : j = 0 := (by omega)); rw [hs.cell]; rfl) (fun j hj => hs.free _)
  obtain ⟨f0, f1, f2⟩ := hs.rules
  go_enter Tryz.func229, Tryz.ntmps229
  go_wp2_with fail
  refine (index_one s n _ (hs.cell 0) hn).mono ?_
  rintro e w' ⟨rfl, rfl⟩
  go_wp2_with fail
  refine wp_loop_rounds 1 ?_
  rw [rounds_succ]
  go_wp2_with fail
  go_ret
  exact ⟨rfl, rfl⟩

set_option maxRecDepth 100000 in
set_option maxHeartbeats 1000000 in
theorem order_aw (g b c c' : Nat) (w : World) (h : TrAt w g b c) : Calls Tryz.prog 191 #[.slice (some ⟨g, 0, none⟩) 1 c'] w
    fun e w' => ∃ G cap, e = .returned (.tuple #[.slice (some ⟨G, 0, none⟩) 1 cap, .int .i64 0]) ∧ Own w' w.heap.size G 1 cap 1 3 (fun _ => .int .i64 0) ∧ Below w.heap.size w w' := by
  have HT := Lib.hid h
  go_enter Tryz.func191, Tryz.ntmps191
  go_wp2_with fail
  refine (ivalid_aw g b c c' w HT.out).mono ?_
  rintro e w1 ⟨rfl, hb⟩
  have HB := Lib.hid hb
  clear hb h HT
  have hm1 : ∀ w : World, (Instr.makeSlice 366 (.int .i64 1) (.int .i64 1)).run Tryz.prog w = .ok (.slice (some ⟨w.heap.size, 0, none⟩) 1 1) (w.alloc (.cells #[.bool false] 4)) := fun w => by kernel_rfl
  have hm2 := mk_int1
  have hm3 : ∀ w : World, (Instr.makeSlice 22 (.int .i64 0) (.int .i64 1)).run Tryz.prog w = .ok (.slice (some ⟨w.heap.size, 0, none⟩) 0 1) (w.alloc (.cells #[.int .i64 0] 3)) := fun w => by kernel_rfl
  go_wp2_with fail
  clear hm1 hm2
  refine wp_loop_rounds 2 ?_
  rw [rounds_succ]
  go_wp2_with fail
  rw [rounds_succ]
  go_wp2_with fail
  clear hm3
  refine wp_loop_rounds 2 ?_
  rw [rounds_succ]
  go_wp2_with fail
  refine (minfunc_one _ _ _ 0 _ ?_).mono ?_
  · exact ((Has.new' _ (w1.heap.size + 1 + 1) #[.int .i64 0] 3 (by simp)).alloc _).cell 0
  rintro e w2 ⟨rfl, rfl⟩
  go_wp2_with fail
  refine (delete_one _ _ _ (Has.alloc (Has.alloc (Has.alloc (Has.new' _ (w1.heap.size + 1 + 1) #[.int .i64 0] 3 (by simp)) _) _) _) ?_).mono ?_
  · exact ((Has.new' _ (w1.heap.size + 1 + 1 + 1 + 1) #[.int .i64 0] 3 (by simp)).alloc _).cell 0
  rintro e w2 ⟨rfl, hw2⟩
  have hG : Has w2 (w1.heap.size + 1 + 1 + 1) #[.int .i64 0] 3 := by
    rw [hw2]
    exact Has.far (Has.alloc (Has.alloc (Has.new' _ (w1.heap.size + 1 + 1 + 1) #[.int .i64 0] 3 (by simp)) _) _) (p := ⟨w1.heap.size + 1 + 1, 0, none⟩) (by simp) _
  have hb2 : Below w1.heap.size w1 w2 := by
    rw [hw2]
    exact Below.setCell (p := ⟨w1.heap.size + 1 + 1, 0, none⟩) (by repeat (first | exact Below.refl _ _ | refine Below.alloc ?_ (by simp <;> omega) _)) (by simp <;> omega) _
  have hs0 := HB.out.size
  replace HB := Lib.hid (HB.out.trans (hb2.mono HB.out.size))
  have HG := Lib.hid hG
  have hle : w.heap.size ≤ w1.heap.size + 1 + 1 + 1 := by omega
  obtain ⟨G, hGe⟩ : ∃ G, w1.heap.size + 1 + 1 + 1 = G := ⟨_, rfl⟩
  clear hw2 hb2 hG
  go_wp2_with fail
  rw [rounds_succ]
  go_wp2_with fail
  go_ret2
  refine ⟨G, 1, rfl, ⟨_, by rw [← hGe]; exact HG.out, ?_, ⟨?_, ?_⟩, rfl, fun j hj => ?_⟩, HB.out⟩
  · omega
  · omega
  · unfold maxLen; omega
  · obtain rfl : j = 0 := by omega
    rfl
end Go.Proofs.YtbeikfopneeodaaGreat
