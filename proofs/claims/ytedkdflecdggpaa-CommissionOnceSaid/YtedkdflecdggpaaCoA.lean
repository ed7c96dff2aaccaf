/- commission.Ratio, Swing and Corridor and the reference's. -/
import Derived.Test.YtedkdflecdggpaaCoMath
import Derived.Test.YtedkdflecdggpaaLay
import Derived.Test.YtedkdflecdggpaaShare
import Derived.Test.YtedkdflecdggpaaMem
namespace Go.Proofs.Ytedkdflecdggpaa
open Go.RowKit
set_option linter.unusedVariables false

set_option maxHeartbeats 400000 in
theorem cwithin_any (n most : Int) (w : World) : Calls Try.prog 31 #[.int .i64 n, .int .i64 most] w fun e w' => e = .returned (.bool (decide (0 ≤ n ∧ n ≤ most))) ∧ w = w' := by
  by_cases h0 : 0 ≤ n
  · by_cases h1 : n ≤ most
    · go_enter Try.func31, Try.ntmps31
      go_wp2
      go_ret
      exact ⟨by simp [h0, h1], rfl⟩
    · go_enter Try.func31, Try.ntmps31
      go_wp2
      go_ret
      exact ⟨by simp; omega, rfl⟩
  · go_enter Try.func31, Try.ntmps31
    go_wp2
    go_ret
    exact ⟨by simp; omega, rfl⟩
set_option maxHeartbeats 400000 in
theorem result_any (n : Int) (w : World) : Calls Try.prog 40 #[.int .i64 n] w fun e w' => e = .returned (.bool (decide (Co.lossP n))) ∧ w = w' := by
  by_cases h0 : 0 ≤ n
  · by_cases h1 : n ≤ 68719476736
    · go_enter Try.func40, Try.ntmps40
      go_wp2
      go_ret
      exact ⟨by simp [Co.lossP, h0, h1], rfl⟩
    · go_enter Try.func40, Try.ntmps40
      go_wp2
      go_ret
      exact ⟨by rw [decide_eq_false (p := Co.lossP n) (by unfold Co.lossP; omega)]; first | rfl | (simp; omega), rfl⟩
  · go_enter Try.func40, Try.ntmps40
    go_wp2
    go_ret
    exact ⟨by rw [decide_eq_false (p := Co.lossP n) (by unfold Co.lossP; omega)]; first | rfl | (simp; omega), rfl⟩
set_option maxHeartbeats 400000 in
theorem loading_any (n : Int) (w : World) : Calls Try.prog 42 #[.int .i64 n] w fun e w' => e = .returned (.bool (decide (Co.loadP n))) ∧ w = w' := by
  by_cases h0 : 0 ≤ n
  · by_cases h1 : n ≤ 10000000
    · go_enter Try.func42, Try.ntmps42
      go_wp2
      go_ret
      exact ⟨by simp [Co.loadP, h0, h1], rfl⟩
    · go_enter Try.func42, Try.ntmps42
      go_wp2
      go_ret
      exact ⟨by rw [decide_eq_false (p := Co.loadP n) (by unfold Co.loadP; omega)]; first | rfl | (simp; omega), rfl⟩
  · go_enter Try.func42, Try.ntmps42
    go_wp2
    go_ret
    exact ⟨by rw [decide_eq_false (p := Co.loadP n) (by unfold Co.loadP; omega)]; first | rfl | (simp; omega), rfl⟩

theorem cyes {n most : Int} (h : 0 ≤ n ∧ n ≤ most) (w : World) : Calls Try.prog 31 #[.int .i64 n, .int .i64 most] w fun e w' => e = .returned (.bool true) ∧ w = w' := by
  have := cwithin_any n most w
  rw [decide_eq_true h] at this
  exact this
theorem cno {n most : Int} (h : ¬ (0 ≤ n ∧ n ≤ most)) (w : World) : Calls Try.prog 31 #[.int .i64 n, .int .i64 most] w fun e w' => e = .returned (.bool false) ∧ w = w' := by
  have := cwithin_any n most w
  rw [decide_eq_false h] at this
  exact this

theorem Co.ways (p l low high : Int) : (Co.lossP p ∧ Co.lossP l ∧ Co.loadP low ∧ Co.loadP high) ∨ ¬ (Co.lossP p ∧ Co.lossP l ∧ Co.loadP low ∧ Co.loadP high) ∧ (¬ Co.lossP p ∨ (Co.lossP p ∧ ¬ Co.lossP l) ∨ (Co.lossP p ∧ Co.lossP l ∧ ¬ Co.loadP low) ∨ (Co.lossP p ∧ Co.lossP l ∧ Co.loadP low ∧ ¬ Co.loadP high)) := by
  unfold Co.lossP Co.loadP
  omega

/-- three numbers are returned; nothing is changed but that orders are drawn -/
def Tri3 (a b c : Int) (w : World) (e : Ending) (w' : World) : Prop := e = .returned (.tuple #[.int .i64 a, .int .i64 b, .int .i64 c]) ∧ ∃ n, w' = w.drewN n
def Tri2 (a : Int × Int) (w : World) (e : Ending) (w' : World) : Prop := e = .returned (.tuple #[.int .i64 a.1, .int .i64 a.2]) ∧ ∃ n, w' = w.drewN n

set_option maxHeartbeats 1000000 in
theorem cbounds_any (low high p l : Int) (w : World) : Calls Try.prog 41 #[.int .i64 low, .int .i64 high, .int .i64 p, .int .i64 l] w
    (Tri3 (if Co.bnd low high p l = 0 then Co.part p low else 0) (if Co.bnd low high p l = 0 then Co.part p high else 0) (Co.bnd low high p l) w) := by
  rcases Co.ways p l low high with h | ⟨h, h1⟩
  · by_cases hlh : high < low
    · have e : Co.bnd low high p l = 13 := by rw [Co.bnd, if_neg (fun c => c h), if_pos hlh]
      rw [e]
      have H := Lib.hid h
      clear h e
      go_enter Try.func41, Try.ntmps41
      go_wp2_with fail
      refine (cyes H.out.1 _).mono ?_
      rintro e w' ⟨rfl, rfl⟩
      go_wp2_with fail
      refine (cyes H.out.2.1 _).mono ?_
      rintro e w' ⟨rfl, rfl⟩
      go_wp2_with fail
      refine (cyes H.out.2.2.1 _).mono ?_
      rintro e w' ⟨rfl, rfl⟩
      go_wp2_with fail
      refine (cyes H.out.2.2.2 _).mono ?_
      rintro e w' ⟨rfl, rfl⟩
      go_wp2_with fail
      go_ret3
      exact ⟨rfl, 0, rfl⟩
    · have e : Co.bnd low high p l = 0 := by rw [Co.bnd, if_neg (fun c => c h), if_neg hlh]
      rw [e, if_pos rfl, if_pos rfl]
      obtain ⟨m1, m10, m11⟩ := Co.part_md h.1 h.2.2.1
      obtain ⟨m2, m20, m21⟩ := Co.part_md h.1 h.2.2.2
      obtain ⟨q1, hq1⟩ : ∃ q, Co.part p low = q := ⟨_, rfl⟩
      obtain ⟨q2, hq2⟩ : ∃ q, Co.part p high = q := ⟨_, rfl⟩
      rw [hq1] at m1 ⊢
      rw [hq2] at m2 ⊢
      have C1 := Lib.hid (share_any p low 4)
      have C2 := Lib.hid (share_any p high 4)
      rw [m1] at C1
      rw [m2] at C2
      have H := Lib.hid h
      clear m1 m2 e hq1 hq2 m10 m11 m20 m21 h
      go_enter Try.func41, Try.ntmps41
      go_wp2_with fail
      refine (cyes H.out.1 _).mono ?_
      rintro e w' ⟨rfl, rfl⟩
      go_wp2_with fail
      refine (cyes H.out.2.1 _).mono ?_
      rintro e w' ⟨rfl, rfl⟩
      go_wp2_with fail
      refine (cyes H.out.2.2.1 _).mono ?_
      rintro e w' ⟨rfl, rfl⟩
      go_wp2_with fail
      refine (cyes H.out.2.2.2 _).mono ?_
      rintro e w' ⟨rfl, rfl⟩
      go_wp2_with fail
      refine (C1.out _).mono ?_
      rintro e w1 ⟨rfl, n1, rfl⟩
      go_wp2_with fail
      refine (C2.out _).mono ?_
      rintro e w1 ⟨rfl, n2, rfl⟩
      go_wp2_with fail
      go_ret3
      exact ⟨rfl, _, by first | rfl | exact World.drewN_drewN _ _ _⟩
  · have e : Co.bnd low high p l = 1 := by rw [Co.bnd, if_pos h]
    rw [e]
    clear h e
    rw [if_neg (by omega), if_neg (by omega)]
    rcases h1 with h1 | h1 | h1 | h1
    · have H := Lib.hid h1
      clear h1
      go_enter Try.func41, Try.ntmps41
      go_wp2_with fail
      refine (cno H.out _).mono ?_
      rintro e w' ⟨rfl, rfl⟩
      go_wp2_with fail
      go_ret3
      exact ⟨rfl, 0, rfl⟩
    · have H := Lib.hid h1
      clear h1
      go_enter Try.func41, Try.ntmps41
      go_wp2_with fail
      refine (cyes H.out.1 _).mono ?_
      rintro e w' ⟨rfl, rfl⟩
      go_wp2_with fail
      refine (cno H.out.2 _).mono ?_
      rintro e w' ⟨rfl, rfl⟩
      go_wp2_with fail
      go_ret3
      exact ⟨rfl, 0, rfl⟩
    · have H := Lib.hid h1
      clear h1
      go_enter Try.func41, Try.ntmps41
      go_wp2_with fail
      refine (cyes H.out.1 _).mono ?_
      rintro e w' ⟨rfl, rfl⟩
      go_wp2_with fail
      refine (cyes H.out.2.1 _).mono ?_
      rintro e w' ⟨rfl, rfl⟩
      go_wp2_with fail
      refine (cno H.out.2.2 _).mono ?_
      rintro e w' ⟨rfl, rfl⟩
      go_wp2_with fail
      go_ret3
      exact ⟨rfl, 0, rfl⟩
    · have H := Lib.hid h1
      clear h1
      go_enter Try.func41, Try.ntmps41
      go_wp2_with fail
      refine (cyes H.out.1 _).mono ?_
      rintro e w' ⟨rfl, rfl⟩
      go_wp2_with fail
      refine (cyes H.out.2.1 _).mono ?_
      rintro e w' ⟨rfl, rfl⟩
      go_wp2_with fail
      refine (cyes H.out.2.2.1 _).mono ?_
      rintro e w' ⟨rfl, rfl⟩
      go_wp2_with fail
      refine (cno H.out.2.2.2 _).mono ?_
      rintro e w' ⟨rfl, rfl⟩
      go_wp2_with fail
      go_ret3
      exact ⟨rfl, 0, rfl⟩

set_option maxHeartbeats 1000000 in
theorem swing_any (low high load p l : Int) (w : World) : Calls Try.prog 23 #[.int .i64 low, .int .i64 high, .int .i64 load, .int .i64 p, .int .i64 l] w (Tri2 (Co.swing low high load p l) w) := by
  have CB := Lib.hid (cbounds_any low high p l)
  by_cases hl : Co.loadP load
  · by_cases hb : Co.bnd low high p l = 0
    · have e : Co.swing low high load p l = (min (max (Co.part l load) (Co.part p low)) (Co.part p high), 0) := by rw [Co.swing, if_neg (fun c => c hl), if_neg (by rw [hb]; simp)]
      obtain ⟨f1, f2, f3, f4, f5⟩ := Co.bnd_fine hb
      obtain ⟨m1, _, _⟩ := Co.part_md f2 hl
      rw [hb, if_pos rfl, if_pos rfl] at CB
      have C1 := Lib.hid (share_any l load 4)
      rw [m1] at C1
      rw [e]
      obtain ⟨q1, hq1⟩ : ∃ q, Co.part p low = q := ⟨_, rfl⟩
      obtain ⟨q2, hq2⟩ : ∃ q, Co.part p high = q := ⟨_, rfl⟩
      obtain ⟨q3, hq3⟩ : ∃ q, Co.part l load = q := ⟨_, rfl⟩
      rw [hq1, hq2] at CB
      rw [hq3] at C1
      rw [hq1, hq2, hq3]
      have H := Lib.hid hl
      clear hb e f1 f2 f3 f4 f5 m1 hq1 hq2 hq3 hl
      go_enter Try.func23, Try.ntmps23
      go_wp2_with fail
      refine (cyes H.out _).mono ?_
      rintro e w' ⟨rfl, rfl⟩
      go_wp2_with fail
      refine (CB.out _).mono ?_
      rintro e w1 ⟨rfl, n1, rfl⟩
      go_wp2_with fail
      refine (C1.out _).mono ?_
      rintro e w1 ⟨rfl, n2, rfl⟩
      go_wp2_with fail
      go_ret2
      exact ⟨by first | rfl | (simp; omega), _, by first | rfl | exact World.drewN_drewN _ _ _⟩
    · have e : Co.swing low high load p l = (0, Co.bnd low high p l) := by rw [Co.swing, if_neg (fun c => c hl), if_pos hb]
      rw [e]
      rw [if_neg hb, if_neg hb] at CB
      obtain ⟨b, hb'⟩ : ∃ b, Co.bnd low high p l = b := ⟨_, rfl⟩
      rw [hb'] at CB hb ⊢
      have hne : (b != 0) = true := by rw [bne_iff_ne]; exact hb
      have H := Lib.hid hl
      clear e hb' hl
      go_enter Try.func23, Try.ntmps23
      go_wp2_with fail
      refine (cyes H.out _).mono ?_
      rintro e w' ⟨rfl, rfl⟩
      go_wp2_with fail
      refine (CB.out _).mono ?_
      rintro e w1 ⟨rfl, n1, rfl⟩
      go_wp2_with fail
      go_ret2
      exact ⟨rfl, _, rfl⟩
  · have e : Co.swing low high load p l = (0, 1) := by rw [Co.swing, if_pos hl]
    rw [e]
    have H := Lib.hid hl
    clear hl e
    go_enter Try.func23, Try.ntmps23
    go_wp2_with fail
    refine (cno H.out _).mono ?_
    rintro e w' ⟨rfl, rfl⟩
    go_wp2_with fail
    go_ret2
    exact ⟨rfl, 0, rfl⟩

set_option maxHeartbeats 1000000 in
theorem corr_any (low high p l : Int) (w : World) : Calls Try.prog 25 #[.int .i64 low, .int .i64 high, .int .i64 p, .int .i64 l] w fun e w' => e = .returned (.tuple #[.int .i64 (Co.corr low high p l).1, .int .i64 (Co.corr low high p l).2]) ∧ Below w.heap.size w w' := by
  have CB := Lib.hid (cbounds_any low high p l)
  by_cases hb : Co.bnd low high p l = 0
  · have e : Co.corr low high p l = (Ex.layer l (Co.part p low) (Co.part p high - Co.part p low), 0) := by rw [Co.corr, if_neg (by rw [hb]; simp)]
    obtain ⟨f1, f2, f3, f4, f5⟩ := Co.bnd_fine hb
    obtain ⟨_, m10, m11⟩ := Co.part_md f1 f3
    obtain ⟨_, m20, m21⟩ := Co.part_md f1 f4
    rw [hb, if_pos rfl, if_pos rfl] at CB
    rw [e]
    obtain ⟨q1, hq1⟩ : ∃ q, Co.part p low = q := ⟨_, rfl⟩
    obtain ⟨q2, hq2⟩ : ∃ q, Co.part p high = q := ⟨_, rfl⟩
    rw [hq1, hq2] at CB
    rw [hq1] at m10 m11 ⊢
    rw [hq2] at m20 m21 ⊢
    have CL := Lib.hid (layer_any l q1 (q2 - q1))
    obtain ⟨y, hy⟩ : ∃ y, Ex.layer l q1 (q2 - q1) = y := ⟨_, rfl⟩
    rw [hy] at CL ⊢
    obtain ⟨p0, p1⟩ := f1
    have hw1 : IntKind.i64.wrap (q2 - q1) = q2 - q1 := by rw [IntKind.wrap_i64]; omega
    clear hb e f2 f3 f4 f5 hq1 hq2 hy
    go_enter Try.func25, Try.ntmps25
    go_wp2_with fail
    refine (CB.out _).mono ?_
    rintro e w1 ⟨rfl, n1, rfl⟩
    go_wp2_with fail
    refine (CL.out _).mono ?_
    rintro e w2 ⟨rfl, hb2⟩
    go_wp2_with fail
    go_ret2
    exact ⟨rfl, (below_drewN (Below.refl w.heap.size w) n1).trans hb2⟩
  · have e : Co.corr low high p l = (0, Co.bnd low high p l) := by rw [Co.corr, if_pos hb]
    rw [e]
    rw [if_neg hb, if_neg hb] at CB
    obtain ⟨b, hb'⟩ : ∃ b, Co.bnd low high p l = b := ⟨_, rfl⟩
    rw [hb'] at CB hb ⊢
    have hne : (b != 0) = true := by rw [bne_iff_ne]; exact hb
    clear e hb'
    go_enter Try.func25, Try.ntmps25
    go_wp2_with fail
    refine (CB.out _).mono ?_
    rintro e w1 ⟨rfl, n1, rfl⟩
    go_wp2_with fail
    go_ret2
    exact ⟨rfl, below_drewN (Below.refl _ _) _⟩
end Go.Proofs.Ytedkdflecdggpaa
