/- The reference's Most and Apply of chapter 28. -/
import Derived.Test.YtlmgfcgakdanaaaApP
import Derived.Test.YtlmgfcgakdanaaaAggR
import Derived.Deep.QuietTactic
import Derived.BigQuiet
namespace Go.Proofs.Ytlmgfcgakdanaaa
open Go.RowKit
set_option linter.unusedVariables false
attribute [local go_sem ↓] exec_load_ty

/-- the last of the three is filled in once more -/
theorem trips_again {h : Nat → Value} {U : Nat → T3} {k : Nat} {a b c d : Int} (hh : ∀ q, q < k * 3 → h q = tripAt U q) (hu : U k = ⟨a, b, c⟩) :
    ∀ q, q < (k + 1) * 3 → (fun i => if i = k * 3 + 2 then Value.int .i64 c else (fun i => if i = k * 3 + 2 then Value.int .i64 d else (fun i => if i = k * 3 + 1 then Value.int .i64 b else (fun i => if i = k * 3 then Value.int .i64 a else h i) i) i) i) q = tripAt U q := fun q hq => by
  have := trips_step hh hu q hq
  simp only at this ⊢
  by_cases h1 : q = k * 3 + 2
  · rw [if_pos h1] at this ⊢
    exact this
  · rw [if_neg h1] at this
    rw [if_neg h1, if_neg h1]
    exact this

theorem Ty.most_ref (t : Ty) : t.most = if t.cap = 0 ∨ (t.agg ≠ 0 ∧ t.agg < t.cap) then t.agg else t.cap := by
  unfold Ty.most Rn.most
  split <;> split <;> omega

set_option maxRecDepth 100000 in
set_option maxHeartbeats 2000000 in
theorem rmost_any (t : Ty) (w : World) (h : t.In w w.heap.size) : Calls Try.prog 46 #[.agg t.cells] w (IntPost t.most w) := by
  have HTI := Lib.hid ty_info
  have hm := Ty.most_ref t
  obtain ⟨M, hM⟩ : ∃ M, t.most = M := ⟨_, rfl⟩
  obtain ⟨cp, hcp⟩ : ∃ M, t.cap = M := ⟨_, rfl⟩
  obtain ⟨ag, hag⟩ : ∃ M, t.agg = M := ⟨_, rfl⟩
  have C1 : Hid (∀ W, t.In W W.heap.size → Calls Try.prog 19 #[.agg t.cells] W (IntPost cp W)) := Lib.hid fun W hW => by rw [← hcp]; exact rcapacity_any t W hW
  rw [hM, hcp, hag] at hm
  have HMC : Hid ((cp = 0 ∧ ag = M) ∨ (cp ≠ 0 ∧ ag = 0 ∧ cp = M) ∨ (cp ≠ 0 ∧ ag ≠ 0 ∧ ag < cp ∧ ag = M) ∨ (cp ≠ 0 ∧ ag ≠ 0 ∧ cp ≤ ag ∧ cp = M)) := Lib.hid (by
    rw [hm]
    by_cases q1 : cp = 0
    · exact .inl ⟨q1, (if_pos (.inl q1)).symm⟩
    · by_cases q2 : ag = 0
      · exact .inr (.inl ⟨q1, q2, (if_neg (by omega)).symm⟩)
      · by_cases q3 : ag < cp
        · exact .inr (.inr (.inl ⟨q1, q2, q3, (if_pos (.inr ⟨q2, q3⟩)).symm⟩))
        · exact .inr (.inr (.inr ⟨q1, q2, by omega, (if_neg (by omega)).symm⟩)))
  have HS := Lib.hid (Ty.Sits.new h)
  have HAG := Lib.hid hag
  rw [hM]
  clear hm hM hcp hag h
  go_enter Try.func46, Try.ntmps46
  go_upto_region 1 with (fail)
  obtain ⟨w1, hw1⟩ : ∃ w1, w.alloc (.cells t.cells 27) = w1 := ⟨_, rfl⟩; obtain ⟨G, hG⟩ : ∃ G, w.heap.size = G := ⟨_, rfl⟩; have HSZ : Hid (w1.heap.size = G + 1) := Lib.hid (by rw [← hw1, ← hG]; simp); rw [hw1, hG] at HS ⊢; clear hw1 hG
  go_wp2_with ((refine wpList_load_has ?_ 27 (.tmp 1) ?_ G ?_ _ t.cells _ HS.out.box Try.underlying27 ?_ HTI.out ?_; rfl; rfl; rfl; rfl))
  refine (C1.out _ HS.out.inn).mono ?_
  rintro e w2 ⟨rfl, hb⟩
  replace HS := Lib.hid (HS.out.next hb)
  clear hb C1
  have x14 : w2.cell? ⟨G, 14, none⟩ = some (.int .i64 t.agg) := HS.out.box.cell 14
  rw [HAG.out] at x14
  rcases HMC.out with ⟨rfl, rfl⟩ | ⟨q1, rfl, rfl⟩ | ⟨q1, q2, q3, rfl⟩ | ⟨q1, q2, q3, rfl⟩
  · clear HMC
    go_wp2_with fail
    go_ret
    exact ⟨rfl, HS.out.out⟩
  · have q4 : (cp == 0) = false := by rw [beq_eq_false_iff_ne]; exact q1
    clear HMC q1
    go_wp2_with fail
    go_ret
    exact ⟨rfl, HS.out.out⟩
  · have q4 : (cp == 0) = false := by rw [beq_eq_false_iff_ne]; exact q1
    have q6 : (ag == 0) = false := by rw [beq_eq_false_iff_ne]; exact q2
    have q7 : (ag != 0) = true := by simp [q2]
    clear HMC q1 q2
    go_wp2_with fail
    go_ret
    exact ⟨rfl, HS.out.out⟩
  · have q4 : (cp == 0) = false := by rw [beq_eq_false_iff_ne]; exact q1
    have q6 : (ag == 0) = false := by rw [beq_eq_false_iff_ne]; exact q2
    have q7 : (ag != 0) = true := by simp [q2]
    have q8 : decide (ag < cp) = false := by rw [decide_eq_false_iff_not]; omega
    clear HMC q1 q2
    go_wp2_with fail
    go_ret
    exact ⟨rfl, HS.out.out⟩

set_option maxRecDepth 100000 in
set_option maxHeartbeats 8000000 in
theorem rreapply_any (t : Ty) (Ah : Option Addr) (nh ch : Nat) (h : Nat → Int) (A : Option Addr) (n c : Nat) (l : Nat → Int) (w : World) (hi : t.In w w.heap.size) (hnh : nh ≤ 9223372036854775807) (hn : n ≤ 9223372036854775807) (hnc : n ≤ c) (hcm : c ≤ 9223372036854775807) (hh : Nums w w.heap.size Ah nh h) (hl : Nums w w.heap.size A n l) :
    Calls Try.prog 22 #[.agg t.cells, .slice Ah nh ch, .slice A n c] w (UsesPost (t.aerr nh h n l) n (t.uses h l) w) := by
  have HTI := Lib.hid ty_info
  obtain ⟨R, hR⟩ : ∃ R, t.err = R := ⟨_, rfl⟩
  obtain ⟨E, hE⟩ : ∃ E, Rn.eerr nh h n l = E := ⟨_, rfl⟩
  obtain ⟨ER, hER⟩ : ∃ e, t.aerr nh h n l = e := ⟨_, rfl⟩
  obtain ⟨S1, hS1⟩ : ∃ S, scan (Rn.ec h l) (nh - 0) 0 = S := ⟨_, rfl⟩
  have HF : Hid ((R ≠ 0 → R = ER) ∧ (R = 0 → ¬ (t.kind = 4 ∨ t.kind = 5) → 11 = ER) ∧ (R = 0 → t.kind = 4 ∨ t.kind = 5 → t.xerr = 0 ∧ (64 < n ∨ nh ≠ n → 4 = ER) ∧ (n ≤ 64 → nh = n → (S1 ≠ 0 → 1 = ER) ∧
      (S1 = 0 → (∀ i, i < n → Ex.hourP (h i) ∧ Ex.amt (l i)) ∧ (17592186044416 < Ex.psum l n → 3 = ER) ∧ (¬ 17592186044416 < Ex.psum l n → 0 = ER))))) := Lib.hid (by
    rw [← hR, ← hER, ← hS1, Nat.sub_zero]
    unfold Ty.aerr
    refine ⟨fun c => ?_, fun c d => ?_, fun c d => ?_⟩
    · rw [Ty.xerr_bad c, if_pos c]
    · rw [Ty.xerr_kind c (by omega), if_pos (by omega)]
    · have hx := Ty.xerr_fine c d
      rw [if_neg (fun q => q hx)]
      unfold Rn.eerr
      refine ⟨hx, fun e => by rw [if_pos e], fun e f => ?_⟩
      subst f
      refine ⟨fun g => ?_, fun g => ⟨fun i hi => ?_, fun o => ?_, fun o => ?_⟩⟩
      · rw [if_neg (by omega), if_pos g]
      · have := scan_zero _ _ _ g i (by omega) (by omega)
        by_cases q : Ex.hourP (h i) ∧ Ex.amt (l i)
        · exact q
        · rw [Rn.ec_bad q] at this; omega
      · rw [if_neg (by omega), if_neg (fun q => q g), if_pos o]
      · rw [if_neg (by omega), if_neg (fun q => q g), if_neg o])
  have HS1 := Lib.hid hS1
  have C1 : Hid (∀ W, t.In W W.heap.size → Calls Try.prog 37 #[.agg t.cells] W (IntPost R W)) := Lib.hid fun W hW => by rw [← hR]; exact rvalidate_any t W hW
  have HS := Lib.hid (Ty.Sits.new hi)
  have HH := Lib.hid hh
  have HL := Lib.hid hl
  rw [hER]
  clear hR hE hER hi hh hl hS1
  go_enter Try.func22, Try.ntmps22
  go_upto_region 1 with (fail)
  obtain ⟨w1, hw1⟩ : ∃ w1, w.alloc (.cells t.cells 27) = w1 := ⟨_, rfl⟩; obtain ⟨G, hG⟩ : ∃ G, w.heap.size = G := ⟨_, rfl⟩; have HSZ : Hid (w1.heap.size = G + 1) := Lib.hid (by rw [← hw1, ← hG]; simp); rw [hw1, hG] at HS ⊢; clear hw1 hG
  go_wp2_with ((refine wpList_load_has ?_ 27 (.tmp 3) ?_ G ?_ _ t.cells _ HS.out.box Try.underlying27 ?_ HTI.out ?_; rfl; rfl; rfl; rfl))
  refine (C1.out _ HS.out.inn).mono ?_
  rintro e w2 ⟨rfl, hb⟩
  replace HS := Lib.hid (HS.out.next hb)
  clear hb C1
  by_cases hq : R = 0
  rotate_left
  · have HG : Hid (R = ER ∧ ER ≠ 0) := Lib.hid (by have := HF.out.1 hq; exact ⟨this, by rw [← this]; exact hq⟩)
    have hq1 : (R == 0) = false := by rw [beq_eq_false_iff_ne]; exact hq
    have hq2 : (R != 0) = true := by simp [hq]
    clear HF hq
    go_wp2_with fail
    go_ret2
    exact UsesPost.err HG.out.1 HG.out.2 HS.out.out
  subst hq
  have x1 : w2.cell? ⟨G, 1, none⟩ = some (.int .i64 t.kind) := HS.out.box.cell 1
  obtain ⟨kd, hkd⟩ : ∃ k, t.kind = k := ⟨_, rfl⟩
  rw [hkd] at x1 HF
  clear hkd
  by_cases hq : kd = 4 ∨ kd = 5
  rotate_left
  · have HG : Hid (11 = ER ∧ ER ≠ 0) := Lib.hid (by have := HF.out.2.1 rfl hq; exact ⟨this, by omega⟩)
    have hd : decide (kd = 4 ∨ kd = 5) = false := by rw [decide_eq_false_iff_not]; exact hq
    clear HF hq
    go_wp2_with ((go_at_call 38; refine (rexcess_any _ _).mono ?_; rintro e w' ⟨rfl, rfl⟩))
    go_ret2
    exact UsesPost.err HG.out.1 HG.out.2 HS.out.out
  have hd : decide (kd = 4 ∨ kd = 5) = true := by rw [decide_eq_true_iff]; exact hq
  have HF2 := Lib.hid (HF.out.2.2 rfl hq)
  clear HF hq
  by_cases h64 : 64 < n
  · have HG : Hid (4 = ER ∧ ER ≠ 0) := Lib.hid (by have := HF2.out.2.1 (.inl h64); exact ⟨this, by omega⟩)
    clear HF2
    go_wp2_with ((go_at_call 38; refine (rexcess_any _ _).mono ?_; rintro e w' ⟨rfl, rfl⟩))
    go_ret2
    exact UsesPost.err HG.out.1 HG.out.2 HS.out.out
  have n64 : n ≤ 64 := by omega
  have hd64 : decide ((64 : Int) < n) = false := by rw [decide_eq_false_iff_not]; omega
  by_cases hne : nh = n
  rotate_left
  · have HG : Hid (4 = ER ∧ ER ≠ 0) := Lib.hid (by have := HF2.out.2.1 (.inr hne); exact ⟨this, by omega⟩)
    have hd1 : ((nh : Int) != n) = true := by simp; omega
    have hd2 : ((nh : Int) == n) = false := by rw [beq_eq_false_iff_ne]; omega
    clear HF2 hne
    go_wp2_with ((go_at_call 38; refine (rexcess_any _ _).mono ?_; rintro e w' ⟨rfl, rfl⟩))
    go_ret2
    exact UsesPost.err HG.out.1 HG.out.2 HS.out.out
  obtain rfl : n = nh := hne.symm
  have HX0 := Lib.hid HF2.out.1
  have HF3 := Lib.hid (HF2.out.2.2 n64 rfl)
  clear HF2 h64 hne
  go_wp2_with ((go_at_call 38; refine (rexcess_any _ _).mono ?_; rintro e w' ⟨rfl, rfl⟩))
  clear hd x1
  go_loop [9, 45] (fun _ i => ∃ k : Nat, k ≤ n ∧ i = .int .i64 k ∧ Hid (scan (Rn.ec h l) (n - k) k = S1)) (fun _ i => n - (intOf i).toNat)
  case atStart => exact ⟨0, Nat.zero_le _, rfl, HS1⟩
  case round =>
    clear HS1 hd64
    obtain ⟨k, hk, rfl, HSC⟩ := hrel
    by_cases hlt : k < n
    · obtain ⟨b, o, hA, hbl, hc0⟩ := ((HL.out.below HS.out.out).mono HS.out.le).get hlt
      obtain ⟨b2, o2, hA2, hbl2, hc2⟩ := ((HH.out.below HS.out.out).mono HS.out.le).get hlt
      obtain ⟨x, hxe⟩ : ∃ x, l k = x := ⟨_, rfl⟩
      obtain ⟨y, hye⟩ : ∃ x, h k = x := ⟨_, rfl⟩
      have HC : Hid ((Ex.hourP y ∧ Ex.amt x → Rn.ec h l k = 0) ∧ (¬ (Ex.hourP y ∧ Ex.amt x) → Rn.ec h l k = 1)) := Lib.hid (by
        rw [← hxe, ← hye]
        exact ⟨Rn.ec_fine, Rn.ec_bad⟩)
      rw [hxe] at hc0
      rw [hye] at hc2
      have hk0 : (0 : Int) ≤ k := by omega
      have hk1 : (k : Int) < n := by omega
      subst hA hA2
      clear hxe hye
      by_cases hok : Ex.hourP y ∧ Ex.amt x
      · have HGG : Hid (scan (Rn.ec h l) (n - (k + 1)) (k + 1) = S1) := Lib.hid (by rw [← scan_go _ hlt (HC.out.1 hok)]; exact HSC.out)
        obtain ⟨⟨y0, y1⟩, x0, x1⟩ := hok
        have hy0 : decide (0 ≤ y ∧ y ≤ 876599) = true := by rw [decide_eq_true_iff]; exact ⟨y0, y1⟩
        have hx0 : decide (x < 0) = false := by rw [decide_eq_false_iff_not]; omega
        have hx1 : decide (17592186044416 < x) = false := by rw [decide_eq_false_iff_not]; omega
        clear HC HSC HF3
        go_wp2_with (first | (go_at_call 44; refine (inhours_any _ _).mono ?_; rintro e w' ⟨rfl, rfl⟩))
        go_round
        case rel => exact ⟨k + 1, by omega, by go_num, HGG⟩
        case measure => simp [intOf]; omega
      · have HG : Hid (1 = ER ∧ ER ≠ 0) := Lib.hid (by
          have e1 := HC.out.2 hok
          have e2 : S1 = 1 := by rw [← HSC.out, scan_stop _ hlt (by omega), e1]
          have := HF3.out.1 (by omega)
          exact ⟨this, by omega⟩)
        have hw : ¬ (0 ≤ y ∧ y ≤ 876599) ∨ ((0 ≤ y ∧ y ≤ 876599) ∧ x < 0) ∨ ((0 ≤ y ∧ y ≤ 876599) ∧ 0 ≤ x ∧ 17592186044416 < x) := by
          unfold Ex.hourP Ex.amt at hok
          omega
        clear HC HSC HF3 hok
        rcases hw with hw | ⟨hw1, hw3⟩ | ⟨hw1, hw3, hw4⟩
        · have hy0 : decide (0 ≤ y ∧ y ≤ 876599) = false := by rw [decide_eq_false_iff_not]; exact hw
          clear hw
          go_wp2_with (first | (go_at_call 44; refine (inhours_any _ _).mono ?_; rintro e w' ⟨rfl, rfl⟩))
          go_ret2
          exact UsesPost.err HG.out.1 HG.out.2 HS.out.out
        · have hy0 : decide (0 ≤ y ∧ y ≤ 876599) = true := by rw [decide_eq_true_iff]; exact hw1
          go_wp2_with (first | (go_at_call 44; refine (inhours_any _ _).mono ?_; rintro e w' ⟨rfl, rfl⟩))
          go_ret2
          exact UsesPost.err HG.out.1 HG.out.2 HS.out.out
        · have hy0 : decide (0 ≤ y ∧ y ≤ 876599) = true := by rw [decide_eq_true_iff]; exact hw1
          have hx0 : decide (x < 0) = false := by rw [decide_eq_false_iff_not]; omega
          go_wp2_with (first | (go_at_call 44; refine (inhours_any _ _).mono ?_; rintro e w' ⟨rfl, rfl⟩))
          go_ret2
          exact UsesPost.err HG.out.1 HG.out.2 HS.out.out
    · have hkn : n = k := by omega
      have e2 : S1 = 0 := by rw [← HSC.out, hkn, Nat.sub_self]; rfl
      have HF4 := Lib.hid (HF3.out.2 e2)
      have hdk : decide ((k : Int) < n) = false := by rw [decide_eq_false_iff_not]; omega
      clear HF3 HSC e2
      have hxs := Ty.xspans HX0.out
      have hmo := Ty.most_bound HX0.out
      obtain ⟨_, _, ⟨d0, d1⟩, _, _⟩ := hxs
      have HUS : Hid (∀ i, t.uses h l i = t.use (h i) (Rn.at' t.ded t.most l i) (Rn.at' t.ded t.most l (i + 1))) := Lib.hid fun i => rfl
      obtain ⟨U, hUe⟩ : ∃ U, t.uses h l = U := ⟨_, rfl⟩
      rw [hUe] at HUS
      have HUE := Lib.hid hUe
      have CM : Hid (∀ W, t.In W W.heap.size → Calls Try.prog 46 #[.agg t.cells] W (IntPost t.most W)) := Lib.hid fun W hW => rmost_any t W hW
      obtain ⟨dd, hdd⟩ : ∃ x, t.ded = x := ⟨_, rfl⟩
      obtain ⟨M, hM⟩ : ∃ x, t.most = x := ⟨_, rfl⟩
      rw [hM] at hmo HUS CM
      rw [hdd] at d0 d1 HUS
      obtain ⟨m0, m1⟩ := hmo
      have x13 : w2.cell? ⟨G, 13, none⟩ = some (.int .i64 dd) := by rw [← hdd]; exact HS.out.box.cell 13
      have HDD : Hid (t.ded = dd) := Lib.hid hdd
      have HB13 : Hid (∀ W : World, t.Box W G → (TyAt W (.pointer (some ⟨G, 0, none⟩)) ∧ tyCells W (.pointer (some ⟨G, 0, none⟩)) = t.cells ∧ W.cell? ⟨G, 13, none⟩ = some (.int .i64 dd))) := Lib.hid fun W h1 => ⟨(box_load h1).1, (box_load h1).2.1, by rw [← hdd]; exact h1.cell 13⟩
      clear hUe hdd hM hkn
      by_cases hov : 17592186044416 < Ex.psum l n
      · have HG : Hid (3 = ER ∧ ER ≠ 0) := Lib.hid (by have := HF4.out.2.1 hov; exact ⟨this, by omega⟩)
        have CA : Hid (∀ W, Nums W W.heap.size A n l → Calls Try.prog 45 #[.slice A n c, .int .i64 dd, .int .i64 M] W fun e w' => e = .returned (.tuple #[.slice none 0 0, .int .i64 3]) ∧ W = w') := Lib.hid (by
          have ha := fun i hi => (HF4.out.1 i hi).2
          exact fun W hW => rapply_over A n c l dd M W n64 ha hov hW d0 (by omega) m0 (by omega))
        clear HF4 hov x13
        go_wp2_with fail
        go_region_held3 (fun w' => TyAt w' (.pointer (some ⟨G, 0, none⟩)) ∧ tyCells w' (.pointer (some ⟨G, 0, none⟩)) = t.cells ∧ w'.cell? ⟨G, 13, none⟩ = some (.int .i64 dd)) (exact HB13.out _ HS.out.box) (first
          | (go_at_call 46; refine (CM.out _ (HS.out.drewN 1).inn).mono ?_; rintro e wa ⟨rfl, hb⟩; replace HS := Lib.hid ((HS.out.drewN 1).next hb); clear hb)
          | (go_at_call 45; refine (CA.out _ ((HL.out.below HS.out.out).mono HS.out.le)).mono ?_; rintro e w' ⟨rfl, rfl⟩))
        all_goals
          go_wp2_with fail
          go_ret2
          exact UsesPost.err HG.out.1 HG.out.2 HS.out.out
      have HG : Hid (ER = 0) := Lib.hid (HF4.out.2.2 (by omega)).symm
      have HSM : Hid (Rn.Sums n l) := Lib.hid ⟨n64, fun i hi => (HF4.out.1 i hi).2, by omega⟩
      have HHR : Hid (∀ i, i < n → 0 ≤ h i ∧ h i ≤ 876599) := Lib.hid fun i hi => (HF4.out.1 i hi).1
      have CA : Hid (∀ W, Nums W W.heap.size A n l → Calls Try.prog 45 #[.slice A n c, .int .i64 dd, .int .i64 M] W (RowsPost n (Rn.paid dd M l) W)) := Lib.hid fun W hW => rapply_any A n c l dd M W HSM.out hnc hcm hW d0 (by omega) m0 (by omega)
      clear HF4 hov x13
      go_wp2_with fail
      go_region_held3 (fun w' => TyAt w' (.pointer (some ⟨G, 0, none⟩)) ∧ tyCells w' (.pointer (some ⟨G, 0, none⟩)) = t.cells ∧ w'.cell? ⟨G, 13, none⟩ = some (.int .i64 dd)) (exact HB13.out _ HS.out.box) (first
        | (go_at_call 46; refine (CM.out _ (HS.out.drewN 1).inn).mono ?_; rintro e wa ⟨rfl, hb⟩; replace HS := Lib.hid ((HS.out.drewN 1).next hb); clear hb)
        | (go_at_call 45; refine (CA.out _ ((HL.out.below HS.out.out).mono HS.out.le)).mono ?_; rintro e wb ⟨A3, c3, rfl, hA3, hn3, hb⟩; replace HS := Lib.hid (HS.out.next hb); have HNP := Lib.hid hn3; clear hb hn3 hA3))
      clear CM CA HB13
      obtain ⟨i0, hi0, hz0, hz1, hz2⟩ := info_parts use_info
      obtain ⟨W1, hmk, ho, hg⟩ := run_make_full (P := Try.prog) wb w.heap.size 41 47 i0 (.agg #[.int .i64 0, .int .i64 0, .int .i64 0]) 3 Try.underlying41 hi0 hz0 hz1 .i64 .i64 n (by rw [hz2]; omega) (by unfold maxLen; omega) HS.out.le
      obtain ⟨h0, hrow⟩ := Row.some_rows ho
      have hb6 : Below wb.heap.size wb W1 := (Below.refl _ _).grown hg (Nat.le_refl _) (fun _ h => by cases h)
      have HR : Hid (Row W1 wb.heap.size (n * 3) 47 h0) := Lib.hid hrow
      have HB4 := Lib.hid hb6
      have hGR : G < wb.heap.size := HS.out.lt
      replace HS := Lib.hid (HS.out.next hb6)
      obtain ⟨R, hR⟩ : ∃ R, wb.heap.size = R := ⟨_, rfl⟩
      rw [hR] at HR HNP HB4 hGR
      have HRW : Hid (wb.heap.size = R) := Lib.hid hR
      clear hi0 hz0 hz1 hz2 ho hg hrow hb6 hR
      have hwG : Hid (w.heap.size = G) := Lib.hid HS.out.sz
      have hfit := Ty.fit HX0.out
      obtain ⟨nr, hnr⟩ : ∃ n, t.nre = n := ⟨_, rfl⟩
      obtain ⟨L, hL⟩ : ∃ n, t.lim = n := ⟨_, rfl⟩
      obtain ⟨F, hF⟩ : ∃ F, (nr : Int) * L = F := ⟨_, rfl⟩
      have hn8 := hfit.n8
      have hl0 := hfit.l0
      have hl1 := hfit.l1
      rw [hnr] at hn8
      rw [hL] at hl0 hl1
      have hF0 : 0 ≤ F := by rw [← hF]; exact Int.mul_nonneg (by omega) (by omega)
      have hF1 : F ≤ 8 * 1073741824 := by rw [← hF]; exact Int.mul_le_mul (by omega) hl1 (by omega) (by omega)
      have hwF : IntKind.i64.wrap ((nr : Int) * L) = F := by rw [hF, IntKind.wrap_i64]; omega
      have HFE : Hid (t.nre * t.lim = F) := Lib.hid (by rw [hnr, hL, hF])
      have y16 : W1.cell? ⟨G, 16, none⟩ = some (.slice t.Are nr t.cre) := by rw [← hnr]; exact HS.out.box.cell 16
      have y11 : W1.cell? ⟨G, 11, none⟩ = some (.int .i64 L) := by rw [← hL]; exact HS.out.box.cell 11
      clear hnr hL hF hfit
      go_wp2_with fail
      rw [HRW.out]
      clear hmk HRW
      go_quiet (fail)
      go_wp2_with fail
      replace HR := Lib.hid (HR.out.drewN nq)
      replace HB4 := Lib.hid (below_drewN HB4.out nq)
      replace HS := Lib.hid (HS.out.drewN nq)
      obtain ⟨W2, hW2⟩ : ∃ W, W1.drewN nq = W := ⟨_, rfl⟩
      rw [hW2] at HR HB4 HS ⊢
      clear hW2 y16 y11 hwF
      have H3 : Hid (∀ (W : World) (a b c : Nat) (x y z : Value), Below R W (((W.setCell ⟨R, a, none⟩ x).setCell ⟨R, b, none⟩ y).setCell ⟨R, c, none⟩ z)) := Lib.hid fun W a b c x y z => (((Below.refl R W).setCell (p := ⟨R, a, none⟩) (Nat.le_refl R) x).setCell (p := ⟨R, b, none⟩) (Nat.le_refl R) y).setCell (p := ⟨R, c, none⟩) (Nat.le_refl R) z
      go_loopw [13, 15, 16, 17, 18, 19, 20, 21, 22, 23, 92] (fun bf _ _ _ _ _ _ _ _ _ i wr => ∃ k : Nat, k ≤ n ∧ i = .int .i64 k ∧ bf = .int .i64 (Rn.at' dd M l k) ∧ (∃ h' : Nat → Value, Hid (Row wr R (n * 3) 47 h') ∧ Hid (∀ q, q < k * 3 → h' q = tripAt U q)) ∧ Hid (Below R wb wr) ∧ Hid (t.Sits w G wr)) (fun _ _ _ _ _ _ _ _ _ _ i _ => n - (intOf i).toNat)
      case atStart => exact ⟨0, Nat.zero_le _, rfl, by rw [show Rn.at' dd M l 0 = 0 from Rn.g_zero M d0], ⟨h0, HR, Lib.hid fun q hq => absurd hq (by omega)⟩, HB4, HS⟩
      case round =>
        clear HR HB4 HS hdk hlt hk
        obtain ⟨k, hk, rfl, rfl, ⟨h', HR, HH'⟩, HB4, HS⟩ := hrel
        by_cases hlt : k < n
        · obtain ⟨b1, o1, hA1, hbl1, hc1⟩ := (HNP.out.below HB4.out).get hlt
          have hb0 : 0 ≤ Rn.at' dd M l k ∧ Rn.at' dd M l k ≤ 17592186044416 := Rn.g_bound dd M _
          have hb1 : 0 ≤ Rn.at' dd M l (k + 1) ∧ Rn.at' dd M l (k + 1) ≤ 17592186044416 := Rn.g_bound dd M _
          have hp0 := (Rn.paid_bound (d := dd) (m := M) (l := l) (n := n) (fun j hj => (HSM.out.each j hj).1) hlt).1
          have hpe : Rn.paid dd M l k = Rn.at' dd M l (k + 1) - Rn.at' dd M l k := rfl
          have hyb := HHR.out k hlt
          have HUK := Lib.hid (HUS.out k)
          obtain ⟨s, hs⟩ : ∃ s, Rn.at' dd M l k = s := ⟨_, rfl⟩
          obtain ⟨v, hv⟩ : ∃ s, Rn.at' dd M l (k + 1) = s := ⟨_, rfl⟩
          obtain ⟨x, hx⟩ : ∃ s, Rn.paid dd M l k = s := ⟨_, rfl⟩
          obtain ⟨y, hy⟩ : ∃ s, h k = s := ⟨_, rfl⟩
          rw [hs] at hb0 hpe HUK ⊢
          rw [hv] at hb1 hpe HUK
          rw [hx] at hp0 hpe hc1
          rw [hy] at hyb HUK
          obtain ⟨s0, s1⟩ := hb0
          obtain ⟨v0, v1⟩ := hb1
          obtain ⟨y0, y1⟩ := hyb
          have hsv : s ≤ v := by omega
          have hsx : s + x = v := by omega
          have hper := (Ty.fine (Ty.xfine HX0.out).1).2.2.1
          obtain ⟨pf0, pfp, pt1⟩ := hper
          have hfit := Ty.fit HX0.out
          have CP : Hid (∀ W, t.In W W.heap.size → Calls Try.prog 17 #[.agg t.cells, .int .i64 s] W (PairPost (Rn.price t.prem t.lim t.fre t.nre s, 0) W)) := Lib.hid fun W hW => by rw [← Ty.pr_fine HX0.out s0 s1]; exact rprice_any t s W hW
          have CQ : Hid (∀ W, t.In W W.heap.size → Calls Try.prog 17 #[.agg t.cells, .int .i64 v] W (PairPost (Rn.price t.prem t.lim t.fre t.nre v, 0) W)) := Lib.hid fun W hW => by rw [← Ty.pr_fine HX0.out v0 v1]; exact rprice_any t v W hW
          have hpu := Rn.price_bound8 hfit s
          have hpv := Rn.price_bound8 hfit v
          have hpm := Rn.price_mono hfit hsv
          have CE : Hid (∀ W, Calls Try.prog 47 #[.agg #[.int .i64 t.pf, .int .i64 t.pt], .int .i64 y] W (PairPost (Rn.gone t.pf t.pt y, Rn.days t.pf t.pt) W)) := Lib.hid fun W => relapsed_any t.pf t.pt y W pf0 pfp pt1 y0 y1
          have HU : Hid (U k = T3.mk x (min v F - min s F) (Rn.prem t.timed t.pf t.pt y (Rn.price t.prem t.lim t.fre t.nre v - Rn.price t.prem t.lim t.fre t.nre s))) := Lib.hid (by rw [HUK.out, ← HFE.out, show x = v - s by omega]; rfl)
          have HM := Lib.hid (Rn.prem_md (x := Rn.price t.prem t.lim t.fre t.nre v - Rn.price t.prem t.lim t.fre t.nre s) (h := y) pfp pf0 pt1 (by omega) (by omega)).1
          have hg := Rn.gone_bound (h := y) pfp
          have hddd := Rn.days_le pf0 pt1
          obtain ⟨pu, hpue⟩ : ∃ p, Rn.price t.prem t.lim t.fre t.nre s = p := ⟨_, rfl⟩
          obtain ⟨pv, hpve⟩ : ∃ p, Rn.price t.prem t.lim t.fre t.nre v = p := ⟨_, rfl⟩
          obtain ⟨ga, hga⟩ : ∃ p, Rn.gone t.pf t.pt y = p := ⟨_, rfl⟩
          obtain ⟨da, hda⟩ : ∃ p, Rn.days t.pf t.pt = p := ⟨_, rfl⟩
          rw [hpue] at CP hpu hpm HU HM
          rw [hpve] at CQ hpv hpm HU HM
          rw [hga] at CE HM hg
          rw [hda] at CE HM hg hddd
          have HVN : Hid (Rn.at' dd M l (k + 1) = v) := Lib.hid hv
          have HHY : Hid (h k = y) := Lib.hid hy
          have HSX : Hid (s + x = v) := Lib.hid hsx
          have hk0 : (0 : Int) ≤ k := by omega
          have hk1 : (k : Int) < n := by omega
          have hxm : x ≤ 17592186044416 := by omega
          obtain ⟨b2, o2, hA2, hbl2, hc2⟩ := HH.out.get hlt
          have hb2R : b2 < R := by have := hwG.out; omega
          rw [hy] at hc2
          have HC2 : Hid (w.cell? ⟨b2, o2 + k, none⟩ = some (.int .i64 y)) := Lib.hid hc2
          have hb2w : b2 < w.heap.size := hbl2
          subst hA1 hA2
          clear hs hv hx hy hpe hsx hfit hpue hpve hga hda hc2 hbl2 HUK
          go_upto_region 23 with (fail)
          rw [HSX.out]
          go_wp2_with ((refine wpList_load_has ?_ 27 (.tmp 3) ?_ G ?_ _ t.cells _ HS.out.box Try.underlying27 ?_ HTI.out ?_; rfl; rfl; rfl; rfl))
          refine (CP.out _ HS.out.inn).mono ?_
          rintro e w3 ⟨rfl, hb⟩
          replace HS := Lib.hid (HS.out.next hb)
          replace HB4 := Lib.hid (HB4.out.trans (hb.mono (Nat.le_of_lt HR.out.lt)))
          replace HR := Lib.hid (HR.out.below hb HR.out.lt)
          clear hb CP hc1
          try simp only
          go_wp2_with ((refine wpList_load_has ?_ 27 (.tmp 3) ?_ G ?_ _ t.cells _ HS.out.box Try.underlying27 ?_ HTI.out ?_; rfl; rfl; rfl; rfl))
          refine (CQ.out _ HS.out.inn).mono ?_
          rintro e w4 ⟨rfl, hb⟩
          replace HS := Lib.hid (HS.out.next hb)
          replace HB4 := Lib.hid (HB4.out.trans (hb.mono (Nat.le_of_lt HR.out.lt)))
          replace HR := Lib.hid (HR.out.below hb HR.out.lt)
          clear hb CQ
          try simp only
          have r0 := HR.out.cell (k * 3) (by omega)
          have r1 := HR.out.cell (k * 3 + 1) (by omega)
          have r2 := HR.out.cell (k * 3 + 2) (by omega)
          have rf := HR.out.free
          go_upto_region 26 with (fail)
          have HB3 := Lib.hid (H3.out w4 (k * 3) (k * 3 + 1) (k * 3 + 2) (.int .i64 x) (.int .i64 (min v F - min s F)) (.int .i64 (pv - pu)))
          replace HS := Lib.hid (HS.out.up (HB3.out.mono hGR))
          replace HB4 := Lib.hid (HB4.out.trans HB3.out)
          replace HR := Lib.hid (((HR.out.put (k * 3) (.int .i64 x)).put (k * 3 + 1) (.int .i64 (min v F - min s F))).put (k * 3 + 2) (.int .i64 (pv - pu)))
          obtain ⟨w5, hw5⟩ : ∃ W, ((w4.setCell ⟨R, k * 3, none⟩ (.int .i64 x)).setCell ⟨R, k * 3 + 1, none⟩ (.int .i64 (min v F - min s F))).setCell ⟨R, k * 3 + 2, none⟩ (.int .i64 (pv - pu)) = W := ⟨_, rfl⟩
          rw [hw5] at HS HB4 HR ⊢
          clear hw5 HB3 r0 r1 r2 rf
          have y17 : w5.cell? ⟨G, 17, none⟩ = some (.bool t.timed) := HS.out.box.cell 17
          obtain ⟨tm, htm⟩ : ∃ b, t.timed = b := ⟨_, rfl⟩
          rw [htm] at y17 HU
          clear htm
          cases tm with
          | false =>
            have HT9 := Lib.hid (trips_step HH'.out (show U k = ⟨x, min v F - min s F, pv - pu⟩ from HU.out))
            clear HU HM CE
            go_wp2_with fail
            go_roundw
            case rel =>
              exact ⟨k + 1, by omega, by go_num, by rw [HVN.out], ⟨_, HR, HT9⟩, HB4, HS⟩
            case measure => simp [intOf]; omega
          | true =>
            have HC5 : Hid (w5.cell? ⟨b2, o2 + k, none⟩ = some (.int .i64 y)) := Lib.hid ((HS.out.out.cell (p := ⟨b2, o2 + k, none⟩) hb2w).trans HC2.out)
            have hy2 := HC5.out
            have y2 : w5.cell? ⟨G, 2, none⟩ = some (.int .i64 t.pf) := HS.out.box.cell 2
            have y3 : w5.cell? ⟨G, 3, none⟩ = some (.int .i64 t.pt) := HS.out.box.cell 3
            have hbox : ∀ W : World, t.Box W G → W.cell? ⟨b2, o2 + k, none⟩ = some (.int .i64 y) → (W.cell? ⟨G, 2, none⟩ = some (.int .i64 t.pf) ∧ W.cell? ⟨G, 3, none⟩ = some (.int .i64 t.pt) ∧ W.cell? ⟨b2, o2 + k, none⟩ = some (.int .i64 y)) := fun W h1 h2 => ⟨h1.cell 2, h1.cell 3, h2⟩
            have HBX := Lib.hid hbox
            clear hbox
            go_upto_region 27 with (fail)
            clear hy2 y2 y3 y17
            go_region_held3 (fun w' => w'.cell? ⟨G, 2, none⟩ = some (.int .i64 t.pf) ∧ w'.cell? ⟨G, 3, none⟩ = some (.int .i64 t.pt) ∧ w'.cell? ⟨b2, o2 + k, none⟩ = some (.int .i64 y)) (exact HBX.out _ HS.out.box HC5.out) (first
              | (go_at_call 47; refine (CE.out _).mono ?_; rintro e w6 ⟨rfl, hb⟩; replace HS := Lib.hid ((HS.out.drewN 1).next hb); replace HB4 := Lib.hid ((below_drewN HB4.out 1).trans (hb.mono (Nat.le_of_lt (HR.out.drewN 1).lt))); replace HR := Lib.hid ((HR.out.drewN 1).below hb (HR.out.drewN 1).lt); replace HC5 : Hid (w6.cell? ⟨b2, o2 + k, none⟩ = some (.int .i64 y)) := Lib.hid ((HS.out.out.cell (p := ⟨b2, o2 + k, none⟩) hb2w).trans HC2.out); clear hb))
            all_goals
              obtain ⟨q, hq⟩ : ∃ q, Rn.prem true t.pf t.pt y (pv - pu) = q := ⟨_, rfl⟩
              rw [hq] at HM HU
              have C4 : Hid (∀ W, Calls Try.prog 39 #[.int .i64 (pv - pu), .int .i64 (da - ga), .int .i64 da, .int .i64 4] W fun e w' => e = .returned (.tuple #[.int .i64 q, .int .i64 0]) ∧ ∃ n, w' = W.drewN n) := Lib.hid fun W => by
                have := rmuldiv_any (pv - pu) (da - ga) da 4 W
                rw [HM.out] at this
                exact this
              have HT9 := Lib.hid (trips_again (d := pv - pu) HH'.out HU.out)
              clear hq HM HU CE
              have r2 := HR.out.cell (k * 3 + 2) (by omega)
              have rf := HR.out.free
              simp only at r2
              go_wp2_with fail
              refine (C4.out _).mono ?_
              rintro e w8 ⟨rfl, nq2, rfl⟩
              go_wp2_with fail
              go_roundw
              case rel =>
                have HR9 := Lib.hid ((HR.out.drewN nq2).put (k * 3 + 2) (.int .i64 q))
                have HB9 := Lib.hid ((below_drewN HB4.out nq2).setCell (p := ⟨R, k * 3 + 2, none⟩) (Nat.le_refl R) (.int .i64 q))
                have HS9 : Hid (t.Sits w G ((w6.drewN nq2).setCell ⟨R, k * 3 + 2, none⟩ (.int .i64 q))) := Lib.hid ((HS.out.drewN nq2).up ((Below.refl (G + 1) _).setCell (p := ⟨R, k * 3 + 2, none⟩) (by simp only; omega) (.int .i64 q)))
                exact ⟨k + 1, by omega, by go_num, by rw [HVN.out], ⟨_, HR9, HT9⟩, HB9, HS9⟩
              case measure => simp [intOf]; omega
        · have hkn : n = k := by omega
          have hd : decide ((k : Int) < n) = false := by rw [decide_eq_false_iff_not]; omega
          have HH9 : Hid (∀ q, q < n * 3 → h' q = tripAt U q) := Lib.hid (by rw [hkn]; exact HH'.out)
          have hwR : w.heap.size ≤ R := by have := hwG.out; omega
          clear hkn HH'
          go_wp2_with fail
          go_ret2
          exact .inr ⟨HG.out, R, n, rfl, hwR, by rw [HUE.out]; exact HR.out.trips HH9.out, HS.out.out⟩
end Go.Proofs.Ytlmgfcgakdanaaa
