/- Law 09: cover, awake. A slice of numbers that came in, in the words of these proofs. Law 09, EndorseReplaces: the plain laws. Law 09, EndorseReplaces: what is known in its loop. -/
import Derived.Test.YtlbkhhbbkedhkaaGreatDoorMa28
import Derived.Test.YtlbkhhbbkedhkaaGreatDoorMa29
import Derived.Test.YtlbkhhbbkedhkaaGreatDoorMa12
import Derived.Test.YtlbkhhbbkedhkaaGreatDoorMa03
import Derived.Test.YtlbkhhbbkedhkaaGreatDoorRead
namespace Go.Proofs.YtlbkhhbbkedhkaaGreatDoor
open Go.RowKit
set_option linter.unusedVariables false

/-- a cover of everything -/
def covC (s : ByteArray) : Cl := ⟨2, s, trueE, 0, fun _ => .bot, 0⟩
def covW : WA := ⟨⟨none, 0, none, 0⟩, none, 0⟩
theorem covC_ok {s : ByteArray} (h : nameB s = true) : (covC s).ok := ⟨(show (1 : Int) ≤ 2 ∧ (2 : Int) ≤ 10 by decide), h, trueE_ok, un_made (.inr rfl) (Nat.zero_le _) (fun i hi => absurd hi (Nat.not_lt_zero _)), by
  unfold amtP
  rw [show mostZ (covC s).kind = 0 from rfl]
  exact ⟨show (min 1 0 : Int) ≤ 0 by decide, show (0 : Int) ≤ 0 by decide⟩⟩
theorem covC_in {S : Nat → Prop} {w : World} {s : ByteArray} : ClIn S w (covC s) covW :=
  ⟨⟨⟨by unfold big; omega, Nat.le_refl _⟩, ⟨Nat.zero_le _, Nat.le_refl _⟩, CellsS.zero, fun _ => ⟨none, 0, none, 0⟩, CellsS.zero, fun i hi => by omega⟩, Nat.zero_le _, fun _ => ⟨⟨none, 0, none, 0⟩, none, 0⟩, CellsS.zero, fun i hi => by exact absurd hi (Nat.not_lt_zero _)⟩
abbrev covR (s : ByteArray) : Array Value := #[.int .i64 2, .string s, .int .i64 1, .string { data := #[] }, .slice none 0 0, .int .i64 0, .int .i64 0, .slice none 0 0, .slice none 0 0, .int .i64 0]
theorem covC_cells (s : ByteArray) : (covC s).cells covW = covR s := rfl

set_option maxRecDepth 100000 in
set_option maxHeartbeats 1000000 in
theorem cover_any (s : ByteArray) (w : World) : Calls Tryz.prog 14 #[.string s] w fun r w' => r = .returned (.agg (covR s)) ∧ Below w.heap.size w w' := by
  have HCI := Lib.hid cl_info
  go_enter Tryz.func14, Tryz.ntmps14
  go_upto_region 1 with (fail)
  go_wp2_with fail
  refine bodyPost_ret (results_cell_row rfl _ _ w.heap.size _ _ _ _ ?_ (Has.new w _ _) Tryz.underlying46 rfl HCI.out) rfl ?_
  · rfl
  · exact ⟨rfl, (Below.refl _ _).alloc (Nat.le_refl _) _⟩

/-- the wording of the example -/
def awkE : En := ⟨10, 20, 1, fun _ => ⟨#[97]⟩, 1, fun _ => covC ⟨#[98]⟩⟩
def awkX : Wr := ⟨1, fun _ => covC ⟨#[97]⟩, 1, fun _ => awkE⟩

set_option maxRecDepth 100000 in
theorem awk_nm : nameB ⟨#[97]⟩ = true ∧ nameB ⟨#[98]⟩ = true := ⟨by decide +kernel, by decide +kernel⟩
theorem cls_one {c : Cl} (h : c.ok) : clsP 1 fun _ => c := ⟨by omega, fun _ _ => h⟩
theorem awkX_ok : awkX.ok := ⟨⟨show 1 ≤ 12 by omega, cls_one (covC_ok awk_nm.1)⟩, fun i _ => ⟨⟨⟨show (0 : Int) ≤ 10 by omega, show (10 : Int) < 20 by omega, show (20 : Int) ≤ 876599 by omega⟩, show 1 ≤ 40 by omega⟩, ⟨fun i _ => awk_nm.1, fun i hi k hk => (by have hi : i < 1 := hi; omega)⟩, cls_one (covC_ok awk_nm.2)⟩⟩
theorem has_cells {w : World} {H n : Nat} {cs : Array Value} {t : TypeId} {f : Nat → Value} (h : Has w H cs t) (hf : ∀ j, j < n → cs[j]? = some (f j)) : Cells w w.heap.size (some ⟨H, 0, none⟩) n f := fun _ => ⟨⟨H, 0, none⟩, rfl, h.lt, fun j hj => by rw [Addr.add_mid, Nat.zero_add, h.cell, hf j hj]⟩
theorem covR_cls {w : World} {H : Nat} {s : ByteArray} {t : TypeId} (h : Has w H (covR s) t) : ClsAt w w.heap.size (some ⟨H, 0, none⟩) 1 fun _ => covC s :=
  ⟨by unfold big; omega, fun _ => covW, has_cells h (fun j hj => by
    have hj : j < 10 := by omega
    match j, hj with
    | 0, _ | 1, _ | 2, _ | 3, _ | 4, _ | 5, _ | 6, _ | 7, _ | 8, _ | 9, _ => rfl), fun _ _ => (covC_in (S := fun b => b < w.heap.size)).to fun _ h => h⟩
theorem awk_at {w : World} {X S Y E : Nat} {t1 t2 t3 t4 : TypeId} (h1 : Has w X (covR ⟨#[97]⟩) t1) (h2 : Has w S #[.string ⟨#[97]⟩] t2) (h3 : Has w Y (covR ⟨#[98]⟩) t3) (h4 : Has w E #[.int .i64 10, .int .i64 20, .slice (some ⟨S, 0, none⟩) 1 1, .slice (some ⟨Y, 0, none⟩) 1 1] t4) :
    WrAt w w.heap.size awkX (some ⟨X, 0, none⟩) (some ⟨E, 0, none⟩) :=
  ⟨covR_cls h1, by show 1 ≤ big; unfold big; omega, fun _ => ⟨some ⟨S, 0, none⟩, 1, some ⟨Y, 0, none⟩, 1⟩, has_cells h4 (fun j hj => by
    have hj : j < 4 := hj
    match j, hj with
    | 0, _ | 1, _ | 2, _ | 3, _ => rfl), fun _ _ => ⟨⟨by show 1 ≤ big; unfold big; omega, Nat.le_refl _⟩, has_cells h2 (fun j hj => by
    have hj : j < 1 := hj
    obtain rfl : j = 0 := by omega
    rfl), covR_cls h3⟩⟩
theorem dist_one {c : Nat → Cl} : distN 1 c := fun i hi j hj => by omega
theorem awk_9 : infL awkX (actOf awkX 9) = .ok [covC ⟨#[97]⟩] := by
  unfold infL
  rw [if_pos (show distN awkX.nc awkX.cs from dist_one)]
  rfl
theorem awk_10 : infL awkX (actOf awkX 10) = .ok [covC ⟨#[98]⟩] := by
  unfold infL
  rw [if_pos (show distN awkX.nc awkX.cs from dist_one)]
  have hf : findI [covC ⟨#[97]⟩] ⟨#[97]⟩ = some 0 := findI_some (by decide) rfl (fun j hj => by omega)
  have hr : remL awkE.rm awkE.nr [covC ⟨#[97]⟩] = .ok [] := by
    show remL awkE.rm (0 + 1) [covC ⟨#[97]⟩] = _
    rw [remL_step (M := [covC ⟨#[97]⟩]) rfl]
    show (match findI [covC ⟨#[97]⟩] ⟨#[97]⟩ with | none => .error 7 | some i => .ok ([covC ⟨#[97]⟩].eraseIdx i)) = (.ok [] : Except Int (List Cl))
    rw [hf]
    rfl
  have he : endL [covC ⟨#[97]⟩] awkE = .ok [covC ⟨#[98]⟩] := by
    unfold endL
    rw [hr]
    rfl
  show (if actOf awkX 10 0 = true then endL [covC ⟨#[97]⟩] awkE else .ok [covC ⟨#[97]⟩]) = _
  rw [if_pos (by decide), he]
theorem awk_pts : ptsOf awkX = [0, 10, 20] := by
  rw [ptsOf_yes awkX_ok]
  decide
theorem inf_one {c : Cl} {w w' : World} {r : Ending} (h : InfP (.ok [c]) w r w') : ∃ b o cap, r = .returned (.tuple #[.slice (some ⟨b, o, none⟩) 1 cap, .int .i64 0]) ∧ b < w'.heap.size ∧ w'.cell? ⟨b, o + 1, none⟩ = some (.string c.name) ∧ Below w.heap.size w w' := by
  obtain ⟨hb, ⟨e, h1, _⟩ | ⟨L, A, n, cap, cs, h1, h2, h3, h4⟩⟩ := h
  · cases h1
  · injection h1 with h1
    subst h1
    have hn : n = 1 := by
      have := congrArg List.length h4
      simpa [listC] using this
    subst hn
    have hc : cs 0 = c := by simpa [listC] using h4
    obtain ⟨_, P, hcc, _⟩ := h3
    obtain ⟨b, o, hA, hbl, hcl⟩ := part_at (f := fun i j => (cs i).cell (P i) j) hcc (show 0 < 1 by omega) (by omega)
    subst hA
    have := hcl 1 (by omega)
    rw [Nat.zero_mul, Nat.add_zero, hc] at this
    exact ⟨b, o, cap, h2, hbl, this, hb⟩

set_option maxRecDepth 100000 in
set_option maxHeartbeats 2000000 in
theorem awake_any (w : World) (ht : Tab w) : Calls Tryz.prog 6 #[] w fun r w' => r = .returned (.bool true) ∧ Below w.heap.size w w' := by
  have HT := Lib.hid ht
  go_enter Tryz.func6, Tryz.ntmps6
  go_upto_region 1 with (fail)
  go_wp2_with fail
  refine (cover_any _ _).mono ?_
  rintro r w1 ⟨rfl, hb1⟩
  go_wp2_with fail
  refine (cover_any _ _).mono ?_
  rintro r w2 ⟨rfl, hb2⟩
  go_upto_region 2 with (fail)
  have HC1 := Lib.hid ((((((Has.new w1 (covR ⟨#[97]⟩) 46).alloc (.cells #[.string ⟨#[97]⟩] 9)).below hb2 (by simp; omega)).alloc (.cells (covR ⟨#[98]⟩) 46)).alloc (.cells #[.int .i64 10, .int .i64 20, .slice (some ⟨w1.heap.size + 1, 0, none⟩) 1 1, .slice (some ⟨w2.heap.size, 0, none⟩) 1 1] 49)).alloc (.cells #[.slice (some ⟨w1.heap.size, 0, none⟩) 1 1, .slice (some ⟨w2.heap.size + 1, 0, none⟩) 1 1] 25))
  have HST := Lib.hid (((((Has.new' (w1.alloc (.cells (covR ⟨#[97]⟩) 46)) (w1.heap.size + 1) #[.string ⟨#[97]⟩] 9 (by simp)).below hb2 (by simp)).alloc (.cells (covR ⟨#[98]⟩) 46)).alloc (.cells #[.int .i64 10, .int .i64 20, .slice (some ⟨w1.heap.size + 1, 0, none⟩) 1 1, .slice (some ⟨w2.heap.size, 0, none⟩) 1 1] 49)).alloc (.cells #[.slice (some ⟨w1.heap.size, 0, none⟩) 1 1, .slice (some ⟨w2.heap.size + 1, 0, none⟩) 1 1] 25))
  have HC2 := Lib.hid (((Has.new w2 (covR ⟨#[98]⟩) 46).alloc (.cells #[.int .i64 10, .int .i64 20, .slice (some ⟨w1.heap.size + 1, 0, none⟩) 1 1, .slice (some ⟨w2.heap.size, 0, none⟩) 1 1] 49)).alloc (.cells #[.slice (some ⟨w1.heap.size, 0, none⟩) 1 1, .slice (some ⟨w2.heap.size + 1, 0, none⟩) 1 1] 25))
  have HEN := Lib.hid ((Has.new' (w2.alloc (.cells (covR ⟨#[98]⟩) 46)) (w2.heap.size + 1) #[.int .i64 10, .int .i64 20, .slice (some ⟨w1.heap.size + 1, 0, none⟩) 1 1, .slice (some ⟨w2.heap.size, 0, none⟩) 1 1] 49 (by simp)).alloc (.cells #[.slice (some ⟨w1.heap.size, 0, none⟩) 1 1, .slice (some ⟨w2.heap.size + 1, 0, none⟩) 1 1] 25))
  have HWD := Lib.hid (Has.new' ((w2.alloc (.cells (covR ⟨#[98]⟩) 46)).alloc (.cells #[.int .i64 10, .int .i64 20, .slice (some ⟨w1.heap.size + 1, 0, none⟩) 1 1, .slice (some ⟨w2.heap.size, 0, none⟩) 1 1] 49)) (w2.heap.size + 1 + 1) #[.slice (some ⟨w1.heap.size, 0, none⟩) 1 1, .slice (some ⟨w2.heap.size + 1, 0, none⟩) 1 1] 25 (by simp))
  have hs1 := hb1.size
  have hb3 : Below w.heap.size w w2 := ((hb1.alloc hb1.size (.cells (covR ⟨#[97]⟩) 46)).alloc (by simp; omega) (.cells #[.string ⟨#[97]⟩] 9)).trans (hb2.mono (by simp; omega))
  have hs2 := hb3.size
  have HB := Lib.hid (((hb3.alloc hs2 (.cells (covR ⟨#[98]⟩) 46)).alloc (by simp; omega) (.cells #[.int .i64 10, .int .i64 20, .slice (some ⟨w1.heap.size + 1, 0, none⟩) 1 1, .slice (some ⟨w2.heap.size, 0, none⟩) 1 1] 49)).alloc (by simp; omega) (.cells #[.slice (some ⟨w1.heap.size, 0, none⟩) 1 1, .slice (some ⟨w2.heap.size + 1, 0, none⟩) 1 1] 25))
  obtain ⟨V, hV⟩ : ∃ V, ((w2.alloc (.cells (covR ⟨#[98]⟩) 46)).alloc (.cells #[.int .i64 10, .int .i64 20, .slice (some ⟨w1.heap.size + 1, 0, none⟩) 1 1, .slice (some ⟨w2.heap.size, 0, none⟩) 1 1] 49)).alloc (.cells #[.slice (some ⟨w1.heap.size, 0, none⟩) 1 1, .slice (some ⟨w2.heap.size + 1, 0, none⟩) 1 1] 25) = V := ⟨_, rfl⟩
  rw [hV] at HC1 HST HC2 HEN HWD HB ⊢
  obtain ⟨X, hX⟩ : ∃ X, w1.heap.size = X := ⟨_, rfl⟩
  obtain ⟨Y, hY⟩ : ∃ X, w2.heap.size = X := ⟨_, rfl⟩
  rw [hX] at HC1 HST HEN HWD
  rw [hY] at HC2 HEN HWD
  rw [hX, hY]
  clear hb1 hb2 hs1 hb3 hs2 hV hX hY
  have HTV := Lib.hid (HT.out.below HB.out HT.out.pos)
  have HX : Hid (∀ U, Below V.heap.size V U → WrAt U U.heap.size awkX (some ⟨X, 0, none⟩) (some ⟨Y + 1, 0, none⟩)) := Lib.hid fun U hb => awk_at (HC1.out.below hb HC1.out.lt) (HST.out.below hb HST.out.lt) (HC2.out.below hb HC2.out.lt) (HEN.out.below hb HEN.out.lt)
  have HI9 : Hid (∀ U, Below V.heap.size V U → Calls Tryz.prog 11 #[.agg #[.slice (some ⟨X, 0, none⟩) 1 1, .slice (some ⟨Y + 1, 0, none⟩) 1 1], .int .i64 9] U (InfP (.ok [covC ⟨#[97]⟩]) U)) := Lib.hid fun U hb => by
    rw [← awk_9]
    exact inforce_any awkX _ _ 1 1 9 U (HTV.out.below hb HTV.out.pos) (HX.out U hb) awkX_ok (by decide) (by omega) (by omega)
  have HI10 : Hid (∀ U, Below V.heap.size V U → Calls Tryz.prog 11 #[.agg #[.slice (some ⟨X, 0, none⟩) 1 1, .slice (some ⟨Y + 1, 0, none⟩) 1 1], .int .i64 10] U (InfP (.ok [covC ⟨#[98]⟩]) U)) := Lib.hid fun U hb => by
    rw [← awk_10]
    exact inforce_any awkX _ _ 1 1 10 U (HTV.out.below hb HTV.out.pos) (HX.out U hb) awkX_ok (by decide) (by omega) (by omega)
  have HPT : Hid (∀ U, Below V.heap.size V U → Calls Tryz.prog 8 #[.agg #[.slice (some ⟨X, 0, none⟩) 1 1, .slice (some ⟨Y + 1, 0, none⟩) 1 1]] U (IntsPost [0, 10, 20] U)) := Lib.hid fun U hb => by
    rw [← awk_pts]
    exact points_any awkX _ _ 1 1 U (HTV.out.below hb HTV.out.pos) (HX.out U hb)
  clear HC1 HST HC2 HEN HT HX HTV
  obtain ⟨f0, f1, f2⟩ := HWD.out.rules
  go_wp2_with fail
  refine (HI9.out _ (Below.refl _ _)).mono ?_
  rintro r w3 hr
  obtain ⟨b3, o3, c3, rfl, hl3, hc3, hb3⟩ := inf_one hr
  have HW3 := Lib.hid (HWD.out.below hb3 HWD.out.lt)
  clear hr f0 f1 f2
  obtain ⟨f0, f1, f2⟩ := HW3.out.rules
  go_wp2_with fail
  refine (HI10.out _ hb3).mono ?_
  rintro r w4 hr
  obtain ⟨b4, o4, c4, rfl, hl4, hc4, hb4⟩ := inf_one hr
  have HB4 := Lib.hid (hb3.trans (hb4.mono hb3.size))
  have HW4 := Lib.hid (HW3.out.below hb4 HW3.out.lt)
  have hc5 : w4.cell? ⟨b3, o3 + 1, none⟩ = some (.string ⟨#[97]⟩) := by rw [hb4.cell (p := ⟨b3, o3 + 1, none⟩) hl3]; exact hc3
  have hc4' : w4.cell? ⟨b4, o4 + 1, none⟩ = some (.string ⟨#[98]⟩) := hc4
  clear hr f0 f1 f2 hb4 hc3 hc4
  obtain ⟨f0, f1, f2⟩ := HW4.out.rules
  go_wp2_with fail
  refine (HPT.out _ HB4.out).mono ?_
  rintro r w5 ⟨A5, c5, rfl, hi5, hb5⟩
  have HI5 := Lib.hid hi5
  have HB5 := Lib.hid (HB.out.trans ((HB4.out.trans (hb5.mono HB4.out.size)).mono HB.out.size))
  clear hi5 hb5 f0 f1 f2 hc5 hc4'
  have HN1 : Hid (Nums (w5.alloc (.cells #[.int .i64 0, .int .i64 10, .int .i64 20] 3)) (w5.alloc (.cells #[.int .i64 0, .int .i64 10, .int .i64 20] 3)).heap.size A5 3 (nth [0, 10, 20])) := Lib.hid ((Cells.alloc HI5.out (Nat.le_refl _) _).mono (by simp))
  have HN2 : Hid (Nums (w5.alloc (.cells #[.int .i64 0, .int .i64 10, .int .i64 20] 3)) (w5.alloc (.cells #[.int .i64 0, .int .i64 10, .int .i64 20] 3)).heap.size (some ⟨w5.heap.size, 0, none⟩) 3 (nth [0, 10, 20])) := Lib.hid (has_cells (Has.new w5 _ _) (fun j hj => by
    match j, hj with
    | 0, _ | 1, _ | 2, _ => rfl))
  have HB6 : Hid (Below w.heap.size w (w5.alloc (.cells #[.int .i64 0, .int .i64 10, .int .i64 20] 3))) := Lib.hid (HB5.out.alloc HB5.out.size _)
  go_wp2_with fail
  refine (same_yes A5 (some ⟨w5.heap.size, 0, none⟩) 3 c5 3 _ _ _ _ (by omega) HN1.out HN2.out).mono ?_
  rintro r w6 ⟨rfl, m, rfl⟩
  go_wp2_with fail
  go_ret
  exact ⟨rfl, below_drewN HB6.out _⟩
end Go.Proofs.YtlbkhhbbkedhkaaGreatDoor
namespace Go.Proofs.YtlbkhhbbkedhkaaGreatDoor
open Go.RowKit

theorem wf_i64 {n : Int} (h : (Lit.int .i64 n).wf = true) : -9223372036854775808 ≤ n ∧ n ≤ 9223372036854775807 := by
  have h1 : IntKind.i64.min = -9223372036854775808 := by decide
  have h2 : IntKind.i64.max = 9223372036854775807 := by decide
  simp only [Lit.wf, h1, h2, Bool.and_eq_true, decide_eq_true_eq] at h
  exact h
theorem wf_u8 {n : Int} (h : (Lit.int .u8 n).wf = true) : 0 ≤ n ∧ n ≤ 255 := by
  have h1 : IntKind.u8.min = 0 := by decide
  have h2 : IntKind.u8.max = 255 := by decide
  simp only [Lit.wf, h1, h2, Bool.and_eq_true, decide_eq_true_eq] at h
  exact h

theorem rd_i64 {w : World} {v : Value} (h : Rd3 w [v]) : ∃ n : Int, v = .int .i64 n ∧ -9223372036854775808 ≤ n ∧ n ≤ 9223372036854775807 := by
  obtain ⟨n, h1, h2⟩ := h
  injection h1 with h1
  exact ⟨n, h1, wf_i64 h2⟩
/-- cells given element by element, as one function -/
theorem cells_of {w : World} {a : Addr} {n k : Nat} {P : Value → Prop} (h : ∀ i, i < n → ∃ cs : List Value, cs.length = k ∧ (∀ j, j < k → w.cell? (a.add (i * k + j)) = cs[j]?) ∧ ∀ v, v ∈ cs → P v) :
    ∃ f : Nat → Value, Cells w w.heap.size (some a) (n * k) f ∧ ∀ j, j < n * k → P (f j) := by
  have h' : ∀ m, ∃ v, m < n * k → w.cell? (a.add m) = some v ∧ P v := fun m => by
    by_cases hm : m < n * k
    · have hk : 0 < k := Nat.pos_of_ne_zero fun e => by subst e; simp at hm
      obtain ⟨cs, hl, hc, hp⟩ := h (m / k) (Nat.div_lt_of_lt_mul (by rw [Nat.mul_comm]; exact hm))
      have hr : m % k < k := Nat.mod_lt _ hk
      have e := hc (m % k) hr
      rw [Nat.mul_comm, Nat.div_add_mod, List.getElem?_eq_getElem (by omega)] at e
      exact ⟨_, fun _ => ⟨e, hp _ (List.getElem_mem _)⟩⟩
    · exact ⟨.bool false, fun h => absurd h hm⟩
  obtain ⟨f, hf⟩ := Classical.skolem.1 h'
  refine ⟨f, fun hn => ⟨a, rfl, ?_, fun j hj => (hf j hj).1⟩, fun j hj => (hf j hj).2⟩
  have := cell_lt (hf 0 hn).1
  rwa [add_block] at this

def IsI64 (v : Value) : Prop := ∃ z : Int, v = .int .i64 z ∧ -9223372036854775808 ≤ z ∧ z ≤ 9223372036854775807

/-- cells that hold integers, by a function of integers -/
theorem cells_ints {w : World} {B : Nat} {A : Option Addr} {n : Nat} {f : Nat → Value} (h : Cells w B A n f) (hp : ∀ j, j < n → IsI64 (f j)) :
    ∃ z : Nat → Int, Cells w B A n (fun j => .int .i64 (z j)) ∧ ∀ j, j < n → -9223372036854775808 ≤ z j ∧ z j ≤ 9223372036854775807 := by
  have h' : ∀ j, ∃ z : Int, j < n → f j = .int .i64 z ∧ -9223372036854775808 ≤ z ∧ z ≤ 9223372036854775807 := fun j => by
    by_cases hj : j < n
    · obtain ⟨z, hz⟩ := hp j hj
      exact ⟨z, fun _ => hz⟩
    · exact ⟨0, fun h => absurd h hj⟩
  obtain ⟨z, hz⟩ := Classical.skolem.1 h'
  exact ⟨z, h.congr fun j hj => (hz j hj).1, fun j hj => (hz j hj).2⟩

theorem rd_ints {w : World} {v : Value} (h : Rd26 w [v]) : ∃ (A : Option Addr) (n c : Nat) (z : Nat → Int), v = .slice A n c ∧ n ≤ 9223372036854775807 ∧ n ≤ c ∧ (A = none → n = 0 ∧ c = 0) ∧
    Cells w w.heap.size A n (fun j => .int .i64 (z j)) ∧ ∀ j, j < n → -9223372036854775808 ≤ z j ∧ z j ≤ 9223372036854775807 := by
  rcases h with h | ⟨a, len, cap, h, h1, h2, h3⟩
  · injection h with h
    exact ⟨none, 0, 0, fun _ => 0, h, by omega, by omega, fun _ => ⟨rfl, rfl⟩, Cells.zero, fun j hj => absurd hj (by omega)⟩
  · injection h with h
    obtain ⟨f, hc, hp⟩ := cells_of (n := len) (k := 1) (P := IsI64) fun i hi => by
      obtain ⟨cs, hl, hcc, n, hn, hw⟩ := h3 i (by omega)
      exact ⟨cs, hl, hcc, fun v hv => by rw [hn] at hv; simp at hv; exact ⟨n, hv, wf_i64 hw⟩⟩
    rw [Nat.mul_one] at hc hp
    obtain ⟨z, hz, hb⟩ := cells_ints hc hp
    exact ⟨some a, len, cap, z, h, by unfold maxLen at h2; omega, h1, (fun e => by cases e), hz, hb⟩
end Go.Proofs.YtlbkhhbbkedhkaaGreatDoor
namespace Go.Proofs.YtlbkhhbbkedhkaaGreatDoor
open Go.RowKit
set_option linter.unusedVariables false

theorem upN.dist {p : ByteArray} {t m : Nat} {zs : Nat → Cl × WA} {κ : Nat → Nat} (h : upN p t m zs κ) (ht : t ≤ 7) : distN m fun i => (zs i).1 := fun i hi j hj e => by
  have h1 := (h i hi).1
  have h2 := (h j (by omega)).1
  have h3 := (h i hi).2 j hj
  rw [h1.1, h2.1] at e
  have := letL_inj (by omega) (by omega) e
  omega
theorem listC_gets {n : Nat} {cs : Nat → Cl} {i : Nat} (hi : i < (listC n cs).length) : (listC n cs)[i] = cs i := by simp [listC]
theorem listC_snoc (n : Nat) (cs : Nat → Cl) : listC n cs ++ [cs n] = listC (n + 1) cs := by simp [listC, List.range_succ]
theorem remL_all (cs : Nat → Cl) (m : Nat) : ∀ k, k ≤ m → remL (fun i => (cs i).name) k (listC m cs) = .ok ((listC m cs).drop k)
  | 0, _ => by rw [List.drop_zero]; rfl
  | k + 1, hk => by
    rw [remL_step (remL_all cs m k (by omega))]
    have hl : k < (listC m cs).length := by rw [listC_length]; omega
    have hd : (listC m cs).drop k = cs k :: (listC m cs).drop (k + 1) := by rw [List.drop_eq_getElem_cons hl, listC_gets]
    have hf : findI (cs k :: (listC m cs).drop (k + 1)) (cs k).name = some 0 := findI_some (k := 0) (by simp) rfl (fun j hj => by omega)
    rw [hd, hf]
    rfl
theorem addC_all {cs : Nat → Cl} {m : Nat} (hd : distN m cs) : ∀ k, k ≤ m → addC cs k [] = .ok (listC k cs)
  | 0, _ => rfl
  | k + 1, hk => by
    rw [addC_step (addC_all hd k (by omega)), findI_none (fun j hj => by
      rw [listC_gets]
      exact hd k (by omega) j (by rw [listC_length] at hj; exact hj)), ← listC_snoc]
/-- an endorsement that removes all and adds its own -/
theorem endL_all {cs cs2 : Nat → Cl} {m m2 : Nat} {f t : Int} (hd : distN m2 cs2) (h2 : m2 ≤ 100) : endL (listC m cs) ⟨f, t, m, fun i => (cs i).name, m2, cs2⟩ = .ok (listC m2 cs2) := by
  unfold endL
  rw [remL_all cs m m (Nat.le_refl m), List.drop_eq_nil_of_le (by rw [listC_length]; omega)]
  show (match addC cs2 m2 [] with | .error x => .error x | .ok N => if N.length > 100 then .error 4 else .ok N) = (.ok (listC m2 cs2) : Except Int (List Cl))
  rw [addC_all hd m2 (Nat.le_refl m2)]
  show (if (listC m2 cs2).length > 100 then .error 4 else .ok (listC m2 cs2)) = (.ok (listC m2 cs2) : Except Int (List Cl))
  rw [if_neg (by rw [listC_length]; omega)]

/-- the wording of the law -/
def repX (m m2 : Nat) (cs cs2 : Nat → Cl) : Wr := ⟨m, cs, 1, fun _ => ⟨100, 200, m, fun i => (cs i).name, m2, cs2⟩⟩
theorem repX_ok {m m2 : Nat} {cs cs2 : Nat → Cl} (hm : m ≤ 7) (hm2 : m2 ≤ 7) (h : ∀ i, i < m → (cs i).ok) (h2 : ∀ i, i < m2 → (cs2 i).ok) (hd : distN m cs) : (repX m m2 cs cs2).ok :=
  ⟨⟨show 1 ≤ 12 by omega, by show m ≤ 40; omega, h⟩, fun i _ => ⟨⟨⟨show (0 : Int) ≤ 100 by omega, show (100 : Int) < 200 by omega, show (200 : Int) ≤ 876599 by omega⟩, by show m ≤ 40; omega⟩, ⟨fun i hi => (h i hi).2.1, fun i hi k hk e => hd i hi k hk e.symm⟩, by show m2 ≤ 40; omega, h2⟩⟩
theorem repX_in {m m2 : Nat} {cs cs2 : Nat → Cl} {h : Int} (hd : distN m cs) (hd2 : distN m2 cs2) (h2 : m2 ≤ 100) (h100 : 100 ≤ h) (h200 : h < 200) : infL (repX m m2 cs cs2) (actOf (repX m m2 cs cs2) h) = .ok (listC m2 cs2) := by
  unfold infL
  rw [if_pos (show distN (repX m m2 cs cs2).nc (repX m m2 cs cs2).cs from hd)]
  show (if actOf (repX m m2 cs cs2) h 0 = true then endL (listC m cs) ⟨100, 200, m, fun i => (cs i).name, m2, cs2⟩ else .ok (listC m cs)) = _
  rw [if_pos (by show inB' 100 200 h = true; unfold inB'; simp; omega), endL_all hd2 h2]
theorem repX_out {m m2 : Nat} {cs cs2 : Nat → Cl} {h : Int} (hd : distN m cs) (ho : h < 100 ∨ 200 ≤ h) : infL (repX m m2 cs cs2) (actOf (repX m m2 cs cs2) h) = .ok (listC m cs) := by
  unfold infL
  rw [if_pos (show distN (repX m m2 cs cs2).nc (repX m m2 cs cs2).cs from hd)]
  show (if actOf (repX m m2 cs cs2) h 0 = true then endL (listC m cs) ⟨100, 200, m, fun i => (cs i).name, m2, cs2⟩ else .ok (listC m cs)) = _
  rw [if_neg (by show ¬ inB' 100 200 h = true; unfold inB'; simp; omega)]
theorem listC_inj {n m : Nat} {cs ds : Nat → Cl} (h : listC n cs = listC m ds) : n = m ∧ ∀ i, i < n → cs i = ds i := by
  have hl := congrArg List.length h
  rw [listC_length, listC_length] at hl
  refine ⟨hl, fun i hi => ?_⟩
  have h1 : i < (listC n cs).length := by rw [listC_length]; exact hi
  have h2 : i < (listC m ds).length := by rw [listC_length]; omega
  rw [← listC_gets h1, ← listC_gets h2]
  simp only [h]
theorem ClsAt.congr {w : World} {B n : Nat} {A : Option Addr} {cs ds : Nat → Cl} (h : ClsAt w B A n cs) (e : ∀ i, i < n → cs i = ds i) : ClsAt w B A n ds := by
  obtain ⟨h1, P, h2, h3⟩ := h
  refine ⟨h1, P, h2.congr fun j hj => ?_, fun i hi => by rw [← e i hi]; exact h3 i hi⟩
  rw [e (j / 10) (by omega)]
/-- what InForce has returned is a list -/
theorem inf_list {n : Nat} {cs : Nat → Cl} {w w' : World} {r : Ending} (h : InfP (.ok (listC n cs)) w r w') : ∃ A cap, r = .returned (.tuple #[.slice A n cap, .int .i64 0]) ∧ ClsAt w' w'.heap.size A n cs ∧ Below w.heap.size w w' := by
  obtain ⟨hb, ⟨e, h1, _⟩ | ⟨L, A, n', cap, ds, h1, h2, h3, h4⟩⟩ := h
  · cases h1
  · injection h1 with h1
    rw [← h1] at h4
    obtain ⟨rfl, he⟩ := listC_inj h4
    exact ⟨A, cap, h2, h3.congr he, hb⟩
/-- a list that Deck.Clauses has made, in a later world -/
theorem made_at {S : Nat → Prop} {w w' : World} {A : Option Addr} {m : Nat} {zs : Nat → Cl × WA} (h1 : CellsS S w A (m * 10) (rowF 10 clC zs)) (h2 : ∀ i, i < m → clQ S w (zs i)) (hm : m ≤ 100) (hk : ∀ b o, S b → w'.cell? ⟨b, o, none⟩ = w.cell? ⟨b, o, none⟩) (hS : ∀ b, S b → b < w'.heap.size) : ClsAt w' w'.heap.size A m fun i => (zs i).1 :=
  ⟨by unfold big; omega, fun i => (zs i).2, (h1.keep hk (T := fun b => b < w'.heap.size) hS).to fun _ h => h, fun i hi => ((h2 i hi).1.keep hk (T := fun b => b < w'.heap.size) hS).to fun _ h => h⟩
end Go.Proofs.YtlbkhhbbkedhkaaGreatDoor
namespace Go.Proofs.YtlbkhhbbkedhkaaGreatDoor
open Go.RowKit
set_option linter.unusedVariables false

abbrev nmF (zs : Nat → Cl × WA) (i : Nat) : Value := .string (zs i).1.name
/-- two lists that Deck.Clauses has made, the wording at G1, the endorsement at G2, k names in its list -/
structure RepSt (w : World) (G1 G2 : Nat) (A1 A2 : Option Addr) (m c1 m2 c2 : Nat) (zs zs2 : Nat → Cl × WA) (An : Option Addr) (cn k : Nat) (wr : World) : Prop where
  below : Below w.heap.size w wr
  ord : w.heap.size ≤ G1 ∧ G1 < G2
  wd : Has wr G1 #[.slice A1 m c1, .slice none 0 0] 25
  en : Has wr G2 #[.int .i64 100, .int .i64 200, .slice An k cn, .slice A2 m2 c2] 49
  l1 : CellsS (fun i => i < G1) wr A1 (m * 10) (rowF 10 clC zs)
  q1 : ∀ i, i < m → clQ (fun i => i < G1) wr (zs i)
  l2 : CellsS (fun i => i < G2 ∧ i ≠ G1) wr A2 (m2 * 10) (rowF 10 clC zs2)
  q2 : ∀ i, i < m2 → clQ (fun i => i < G2 ∧ i ≠ G1) wr (zs2 i)
  row : wr.ownsRow (G2 + 1) 9 1 (.slice An k cn) k (rowL k (nmF zs))

section
variable {w wr w7 W : World} {G1 G2 m c1 m2 c2 cn k gg cap : Nat} {A1 A2 An : Option Addr} {zs zs2 : Nat → Cl × WA} {t : TypeId}
theorem RepSt.next {ys : Array Value} (h : RepSt w G1 G2 A1 A2 m c1 m2 c2 zs zs2 An cn k wr) (hW : Below wr.heap.size wr W) (hgrow : (W.alloc (.cells ys t)).grownBy w7 (Value.slice An k cn).ownBlock) (hown : w7.ownsRow (G2 + 1) 9 1 (.slice (some ⟨gg, 0, none⟩) (k + 1) cap) (k + 1) (rowL k (nmF zs) ++ [.string (zs k).1.name])) :
    RepSt w G1 G2 A1 A2 m c1 m2 c2 zs zs2 (some ⟨gg, 0, none⟩) cap (k + 1) (w7.setCell ⟨G2, 2, none⟩ (.slice (some ⟨gg, 0, none⟩) (k + 1) cap)) := by
  have hen := h.en.lt
  have hsz := hW.size
  have ho := h.ord
  have hb7 : Below (G2 + 1) wr w7 := Below.grown (Below.alloc (hW.mono (by omega)) (by omega) _) hgrow (by simp; omega) (fun q hq => (own_lt h.row hq).2)
  have hb8 : Below G2 wr (w7.setCell ⟨G2, 2, none⟩ (.slice (some ⟨gg, 0, none⟩) (k + 1) cap)) := Below.setCell (hb7.mono (by omega)) (Nat.le_refl G2) _
  refine ⟨h.below.trans (hb8.mono (by omega)), h.ord, h.wd.below hb8 ho.2, ?_, h.l1.keep (fun b o hS => World.cell?_of_block (w := wr) (hb8.block b (by omega))) (fun b hS => hS), fun i hi => clQ_moves _ _ _ _ _ (h.q1 i hi) (fun b o hS => World.cell?_of_block (w := wr) (hb8.block b (by omega))) (fun b hS => hS), h.l2.keep (fun b o hS => World.cell?_of_block (w := wr) (hb8.block b hS.1)) (fun b hS => hS), fun i hi => clQ_moves _ _ _ _ _ (h.q2 i hi) (fun b o hS => World.cell?_of_block (w := wr) (hb8.block b hS.1)) (fun b hS => hS), ?_⟩
  · exact Has.put (cs := #[.int .i64 100, .int .i64 200, .slice An k cn, .slice A2 m2 c2]) (h.en.below hb7 (Nat.lt_succ_self G2)) 2 _
  · have hr : rowL k (nmF zs) ++ [.string (zs k).1.name] = rowL (k + 1) (nmF zs) := by simp [rowL, List.range_succ]
    rw [hr] at hown
    exact own_keeps (b := G2) hown ((Keeps.refl G2 w7).put 2 _) (Nat.lt_succ_self G2)
/-- the wording of the law lies in memory -/
theorem RepSt.at (h : RepSt w G1 G2 A1 A2 m c1 m2 c2 zs zs2 An cn m wr) (hm : m ≤ 7) (hm2 : m2 ≤ 7) {U : World} (hU : U = (wr.setCell ⟨G1, 1, none⟩ (.slice (some ⟨wr.heap.size, 0, none⟩) 1 1)).alloc (.cells #[.int .i64 100, .int .i64 200, .slice An m cn, .slice A2 m2 c2] 49)) {U' : World} (hb : Below U.heap.size U U') :
    WrAt U' U'.heap.size (repX m m2 (fun i => (zs i).1) fun i => (zs2 i).1) A1 (some ⟨wr.heap.size, 0, none⟩) ∧ ClsAt U' U'.heap.size A1 m (fun i => (zs i).1) ∧ ClsAt U' U'.heap.size A2 m2 (fun i => (zs2 i).1) ∧
      Has U' G1 #[.slice A1 m c1, .slice (some ⟨wr.heap.size, 0, none⟩) 1 1] 25 ∧ Has U' G2 #[.int .i64 100, .int .i64 200, .slice An m cn, .slice A2 m2 c2] 49 ∧ Below w.heap.size w U' := by
  have hen := h.en.lt
  have ho := h.ord
  have hUs : U.heap.size = wr.heap.size + 1 := by rw [hU]; simp
  have hsz := hb.size
  have hk : ∀ b, b ≠ G1 → b < wr.heap.size → U'.heap[b]? = wr.heap[b]? := fun b h1 h2 => by
    rw [hb.block b (by omega), hU, Below.heap_alloc _ _ _ (by simp; omega), Below.heap_setCell _ _ _ _ (show b ≠ G1 from h1)]
  have hW1 : Has U' G1 #[.slice A1 m c1, .slice (some ⟨wr.heap.size, 0, none⟩) 1 1] 25 := by
    have : Has U G1 #[.slice A1 m c1, .slice (some ⟨wr.heap.size, 0, none⟩) 1 1] 25 := by
      rw [hU]
      exact Has.alloc (Has.put (cs := #[.slice A1 m c1, .slice none 0 0]) h.wd 1 _) _
    exact this.below hb (by omega)
  have hE1 : Has U' wr.heap.size #[.int .i64 100, .int .i64 200, .slice An m cn, .slice A2 m2 c2] 49 := by
    have : Has U wr.heap.size #[.int .i64 100, .int .i64 200, .slice An m cn, .slice A2 m2 c2] 49 := by
      rw [hU]
      exact Has.new' _ _ _ _ (by simp)
    exact this.below hb (by omega)
  have hE2 : Has U' G2 #[.int .i64 100, .int .i64 200, .slice An m cn, .slice A2 m2 c2] 49 := (hk G2 (by omega) hen).trans h.en
  have c1' := made_at (w' := U') h.l1 h.q1 (by omega) (fun b o hS => World.cell?_of_block (w := wr) (hk b (by omega) (by omega))) (fun b hS => by omega)
  have c2' := made_at (w' := U') h.l2 h.q2 (by omega) (fun b o hS => World.cell?_of_block (w := wr) (hk b hS.2 (by omega))) (fun b hS => by omega)
  have hst : Strs U' U'.heap.size An m (fun i => (zs i).1.name) := by
    have h1 := Cells.of_own h.row (nmF zs) (fun j hj => by simp [rowL])
    rw [Nat.mul_one] at h1
    intro hn
    obtain ⟨ad, e, hl, hc⟩ := h1 hn
    have hne : ad.block ≠ G1 := fun c => by
      rcases h.row.2 with ⟨e0, _⟩ | ⟨g, cap', cur, e0, hg, _⟩
      · injection e0 with e0
        rw [e] at e0
        cases e0
      · injection e0 with e0
        rw [e] at e0
        injection e0 with e0
        rw [e0] at c
        have c : g = G1 := c
        omega
    exact ⟨ad, e, by omega, fun j hj => by rw [← hc j hj]; exact World.cell?_of_block (w := wr) (by rw [add_block]; exact hk _ hne hl)⟩
  have hcap : m ≤ cn := by
    rcases h.row.2 with ⟨e0, e1⟩ | ⟨g, cap', cur, e0, hg, hh, hr⟩
    · omega
    · injection e0 with _ _ e0
      have := hr.1
      omega
  refine ⟨⟨c1', by show 1 ≤ big; unfold big; omega, fun _ => ⟨An, cn, A2, c2⟩, has_cells hE1 (fun j hj => by
    have hj : j < 4 := hj
    match j, hj with
    | 0, _ | 1, _ | 2, _ | 3, _ => rfl), fun _ _ => ⟨⟨by show m ≤ big; unfold big; omega, hcap⟩, hst, c2'⟩⟩, c1', c2', hW1, hE2, ?_⟩
  refine h.below.trans ((show Below w.heap.size wr U from ?_).trans (hb.mono (by omega)))
  rw [hU]
  exact Below.alloc (Below.setCell (Below.refl _ _) ho.1 _) (by simp; omega) _
end
end Go.Proofs.YtlbkhhbbkedhkaaGreatDoor
