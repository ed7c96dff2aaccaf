/- The reference's Swing and Corridor; Ratio of both. -/
import Derived.Test.YtedkdflecdggpaaCoA
namespace Go.Proofs.Ytedkdflecdggpaa
open Go.RowKit
set_option linter.unusedVariables false

theorem ryes {n : Int} (h : Co.lossP n) (w : World) : Calls Try.prog 40 #[.int .i64 n] w fun e w' => e = .returned (.bool true) ∧ w = w' := by
  have := result_any n w
  rw [decide_eq_true h] at this
  exact this
theorem rno {n : Int} (h : ¬ Co.lossP n) (w : World) : Calls Try.prog 40 #[.int .i64 n] w fun e w' => e = .returned (.bool false) ∧ w = w' := by
  have := result_any n w
  rw [decide_eq_false h] at this
  exact this
theorem lyes {n : Int} (h : Co.loadP n) (w : World) : Calls Try.prog 42 #[.int .i64 n] w fun e w' => e = .returned (.bool true) ∧ w = w' := by
  have := loading_any n w
  rw [decide_eq_true h] at this
  exact this
theorem lno {n : Int} (h : ¬ Co.loadP n) (w : World) : Calls Try.prog 42 #[.int .i64 n] w fun e w' => e = .returned (.bool false) ∧ w = w' := by
  have := loading_any n w
  rw [decide_eq_false h] at this
  exact this

theorem Co.swing_ways (low high load p l : Int) : (Co.lossP p ∧ Co.lossP l ∧ Co.loadP low ∧ Co.loadP high ∧ Co.loadP load) ∨ (¬ Co.lossP p ∨ (Co.lossP p ∧ ¬ Co.lossP l) ∨ (Co.lossP p ∧ Co.lossP l ∧ ¬ Co.loadP low) ∨ (Co.lossP p ∧ Co.lossP l ∧ Co.loadP low ∧ ¬ Co.loadP high) ∨ (Co.lossP p ∧ Co.lossP l ∧ Co.loadP low ∧ Co.loadP high ∧ ¬ Co.loadP load)) := by
  unfold Co.lossP Co.loadP
  omega
theorem Co.swing_bad {low high load p l : Int} (h : ¬ (Co.lossP p ∧ Co.lossP l ∧ Co.loadP low ∧ Co.loadP high ∧ Co.loadP load)) : Co.swing low high load p l = (0, 1) := by
  unfold Co.swing
  by_cases c : Co.loadP load
  · have hb : Co.bnd low high p l = 1 := if_pos fun x => h ⟨x.1, x.2.1, x.2.2.1, x.2.2.2, c⟩
    rw [if_neg (fun x => x c), hb, if_pos (by omega)]
  · rw [if_pos c]

set_option maxHeartbeats 1000000 in
theorem rswing_any (low high load p l : Int) (w : World) : Calls Try.prog 24 #[.int .i64 low, .int .i64 high, .int .i64 load, .int .i64 p, .int .i64 l] w (Tri2 (Co.swing low high load p l) w) := by
  rcases Co.swing_ways low high load p l with h | h1
  · have H := Lib.hid h
    by_cases hlh : high < low
    · have hb : Co.bnd low high p l = 13 := by rw [Co.bnd, if_neg (fun c => c ⟨h.1, h.2.1, h.2.2.1, h.2.2.2.1⟩), if_pos hlh]
      have e : Co.swing low high load p l = (0, 13) := by rw [Co.swing, if_neg (fun c => c h.2.2.2.2), hb, if_pos (by omega)]
      rw [e]
      clear e hb h
      go_enter Try.func24, Try.ntmps24
      go_wp2_with fail
      refine (ryes H.out.1 _).mono ?_
      rintro e w' ⟨rfl, rfl⟩
      go_wp2_with fail
      refine (ryes H.out.2.1 _).mono ?_
      rintro e w' ⟨rfl, rfl⟩
      go_wp2_with fail
      refine (lyes H.out.2.2.1 _).mono ?_
      rintro e w' ⟨rfl, rfl⟩
      go_wp2_with fail
      refine (lyes H.out.2.2.2.1 _).mono ?_
      rintro e w' ⟨rfl, rfl⟩
      go_wp2_with fail
      refine (lyes H.out.2.2.2.2 _).mono ?_
      rintro e w' ⟨rfl, rfl⟩
      go_wp2_with fail
      go_ret2
      exact ⟨rfl, 0, rfl⟩
    · have hb : Co.bnd low high p l = 0 := by rw [Co.bnd, if_neg (fun c => c ⟨h.1, h.2.1, h.2.2.1, h.2.2.2.1⟩), if_neg hlh]
      have e : Co.swing low high load p l = (min (max (Co.part l load) (Co.part p low)) (Co.part p high), 0) := by rw [Co.swing, if_neg (fun c => c h.2.2.2.2), if_neg (by rw [hb]; simp)]
      rw [e]
      obtain ⟨m1, _, _⟩ := Co.part_md h.2.1 h.2.2.2.2
      obtain ⟨m2, _, _⟩ := Co.part_md h.1 h.2.2.1
      obtain ⟨m3, _, _⟩ := Co.part_md h.1 h.2.2.2.1
      obtain ⟨q1, hq1⟩ : ∃ q, Co.part p low = q := ⟨_, rfl⟩
      obtain ⟨q2, hq2⟩ : ∃ q, Co.part p high = q := ⟨_, rfl⟩
      obtain ⟨q3, hq3⟩ : ∃ q, Co.part l load = q := ⟨_, rfl⟩
      rw [hq3] at m1 ⊢
      rw [hq1] at m2 ⊢
      rw [hq2] at m3 ⊢
      have C1 := Lib.hid (rshare_any l load 4)
      have C2 := Lib.hid (rshare_any p low 4)
      have C3 := Lib.hid (rshare_any p high 4)
      rw [m1] at C1
      rw [m2] at C2
      rw [m3] at C3
      clear e hb h m1 m2 m3 hq1 hq2 hq3
      go_enter Try.func24, Try.ntmps24
      go_wp2_with fail
      refine (ryes H.out.1 _).mono ?_
      rintro e w' ⟨rfl, rfl⟩
      go_wp2_with fail
      refine (ryes H.out.2.1 _).mono ?_
      rintro e w' ⟨rfl, rfl⟩
      go_wp2_with fail
      refine (lyes H.out.2.2.1 _).mono ?_
      rintro e w' ⟨rfl, rfl⟩
      go_wp2_with fail
      refine (lyes H.out.2.2.2.1 _).mono ?_
      rintro e w' ⟨rfl, rfl⟩
      go_wp2_with fail
      refine (lyes H.out.2.2.2.2 _).mono ?_
      rintro e w' ⟨rfl, rfl⟩
      go_wp2_with fail
      refine (C1.out _).mono ?_
      rintro e w1 ⟨rfl, n1, rfl⟩
      go_wp2_with fail
      refine (C2.out _).mono ?_
      rintro e w1 ⟨rfl, n2, rfl⟩
      go_wp2_with fail
      refine (C3.out _).mono ?_
      rintro e w1 ⟨rfl, n3, rfl⟩
      go_wp2_with fail
      go_ret2
      exact ⟨by first | rfl | (simp; omega), _, by first | rfl | exact World.drewN_drewN _ _ _⟩
  · have e : Co.swing low high load p l = (0, 1) := Co.swing_bad fun c => by
      obtain ⟨c1, c2, c3, c4, c5⟩ := c
      rcases h1 with h | h | h | h | h
      · exact h c1
      · exact h.2 c2
      · exact h.2.2 c3
      · exact h.2.2.2 c4
      · exact h.2.2.2.2 c5
    rw [e]
    clear e
    rcases h1 with h | h | h | h | h
    · have H := Lib.hid h
      clear h
      go_enter Try.func24, Try.ntmps24
      go_wp2_with fail
      refine (rno H.out _).mono ?_
      rintro e w' ⟨rfl, rfl⟩
      go_wp2_with fail
      go_ret2
      exact ⟨rfl, 0, rfl⟩
    · have H := Lib.hid h
      clear h
      go_enter Try.func24, Try.ntmps24
      go_wp2_with fail
      refine (ryes H.out.1 _).mono ?_
      rintro e w' ⟨rfl, rfl⟩
      go_wp2_with fail
      refine (rno H.out.2 _).mono ?_
      rintro e w' ⟨rfl, rfl⟩
      go_wp2_with fail
      go_ret2
      exact ⟨rfl, 0, rfl⟩
    · have H := Lib.hid h
      clear h
      go_enter Try.func24, Try.ntmps24
      go_wp2_with fail
      refine (ryes H.out.1 _).mono ?_
      rintro e w' ⟨rfl, rfl⟩
      go_wp2_with fail
      refine (ryes H.out.2.1 _).mono ?_
      rintro e w' ⟨rfl, rfl⟩
      go_wp2_with fail
      refine (lno H.out.2.2 _).mono ?_
      rintro e w' ⟨rfl, rfl⟩
      go_wp2_with fail
      go_ret2
      exact ⟨rfl, 0, rfl⟩
    · have H := Lib.hid h
      clear h
      go_enter Try.func24, Try.ntmps24
      go_wp2_with fail
      refine (ryes H.out.1 _).mono ?_
      rintro e w' ⟨rfl, rfl⟩
      go_wp2_with fail
      refine (ryes H.out.2.1 _).mono ?_
      rintro e w' ⟨rfl, rfl⟩
      go_wp2_with fail
      refine (lyes H.out.2.2.1 _).mono ?_
      rintro e w' ⟨rfl, rfl⟩
      go_wp2_with fail
      refine (lno H.out.2.2.2 _).mono ?_
      rintro e w' ⟨rfl, rfl⟩
      go_wp2_with fail
      go_ret2
      exact ⟨rfl, 0, rfl⟩
    · have H := Lib.hid h
      clear h
      go_enter Try.func24, Try.ntmps24
      go_wp2_with fail
      refine (ryes H.out.1 _).mono ?_
      rintro e w' ⟨rfl, rfl⟩
      go_wp2_with fail
      refine (ryes H.out.2.1 _).mono ?_
      rintro e w' ⟨rfl, rfl⟩
      go_wp2_with fail
      refine (lyes H.out.2.2.1 _).mono ?_
      rintro e w' ⟨rfl, rfl⟩
      go_wp2_with fail
      refine (lyes H.out.2.2.2.1 _).mono ?_
      rintro e w' ⟨rfl, rfl⟩
      go_wp2_with fail
      refine (lno H.out.2.2.2.2 _).mono ?_
      rintro e w' ⟨rfl, rfl⟩
      go_wp2_with fail
      go_ret2
      exact ⟨rfl, 0, rfl⟩

theorem Co.corr_of (low high p l : Int) : Co.corr low high p l = if (Co.swing low high 0 p l).2 ≠ 0 then (0, (Co.swing low high 0 p l).2) else (Ex.layer l (Co.part p low) (Co.part p high - Co.part p low), 0) := by
  have h0 : Co.loadP 0 := ⟨by omega, by omega⟩
  by_cases hb : Co.bnd low high p l = 0
  · have hs : (Co.swing low high 0 p l).2 = 0 := by rw [Co.swing, if_neg (fun c => c h0), if_neg (by rw [hb]; simp)]
    rw [Co.corr, if_neg (by rw [hb]; simp), if_neg (by rw [hs]; simp)]
  · have hs : (Co.swing low high 0 p l).2 = Co.bnd low high p l := by rw [Co.swing, if_neg (fun c => c h0), if_pos hb]
    rw [Co.corr, if_pos hb, hs, if_pos hb]

set_option maxHeartbeats 1000000 in
theorem rcorr_any (low high p l : Int) (w : World) : Calls Try.prog 26 #[.int .i64 low, .int .i64 high, .int .i64 p, .int .i64 l] w (Tri2 (Co.corr low high p l) w) := by
  have CS := Lib.hid (rswing_any low high 0 p l)
  have hc := Co.corr_of low high p l
  by_cases hb : (Co.swing low high 0 p l).2 = 0
  · rw [if_neg (by rw [hb]; simp)] at hc
    have hbn : Co.bnd low high p l = 0 := by
      have h0 : Co.loadP 0 := ⟨by omega, by omega⟩
      unfold Co.swing at hb
      rw [if_neg (fun c => c h0)] at hb
      by_cases c : Co.bnd low high p l = 0
      · exact c
      · rw [if_pos c] at hb; exact hb
    obtain ⟨f1, f2, f3, f4, f5⟩ := Co.bnd_fine hbn
    obtain ⟨m1, m10, m11⟩ := Co.part_md f1 f3
    obtain ⟨m2, m20, m21⟩ := Co.part_md f1 f4
    rw [hc]
    obtain ⟨⟨s1, s2⟩, hs⟩ : ∃ s, Co.swing low high 0 p l = s := ⟨_, rfl⟩
    rw [hs] at CS hb
    simp only at hb
    subst hb
    obtain ⟨q1, hq1⟩ : ∃ q, Co.part p low = q := ⟨_, rfl⟩
    obtain ⟨q2, hq2⟩ : ∃ q, Co.part p high = q := ⟨_, rfl⟩
    rw [hq1] at m1 m10 m11 ⊢
    rw [hq2] at m2 m20 m21 ⊢
    have C1 := Lib.hid (rshare_any p low 4)
    have C2 := Lib.hid (rshare_any p high 4)
    rw [m1] at C1
    rw [m2] at C2
    have CL := Lib.hid (rlayer_any l q1 (q2 - q1))
    obtain ⟨y, hy⟩ : ∃ y, Ex.layer l q1 (q2 - q1) = y := ⟨_, rfl⟩
    rw [hy] at CL ⊢
    obtain ⟨p0, p1⟩ := f1
    have hw1 : IntKind.i64.wrap (q2 - q1) = q2 - q1 := by rw [IntKind.wrap_i64]; omega
    clear hc hbn f2 f3 f4 f5 m1 m2 hs hq1 hq2 hy
    go_enter Try.func26, Try.ntmps26
    go_wp2_with fail
    refine (CS.out _).mono ?_
    rintro e w1 ⟨rfl, n1, rfl⟩
    go_wp2_with fail
    refine (C1.out _).mono ?_
    rintro e w1 ⟨rfl, n2, rfl⟩
    go_wp2_with fail
    refine (C2.out _).mono ?_
    rintro e w1 ⟨rfl, n3, rfl⟩
    go_wp2_with fail
    refine (CL.out _).mono ?_
    rintro e w1 ⟨rfl, rfl⟩
    go_wp2_with fail
    go_ret2
    exact ⟨rfl, _, by first | rfl | exact World.drewN_drewN _ _ _⟩
  · rw [if_pos hb] at hc
    rw [hc]
    obtain ⟨⟨s1, s2⟩, hs⟩ : ∃ s, Co.swing low high 0 p l = s := ⟨_, rfl⟩
    rw [hs] at CS hb ⊢
    simp only at hb ⊢
    have hne : (s2 != 0) = true := by rw [bne_iff_ne]; exact hb
    clear hc hs
    go_enter Try.func26, Try.ntmps26
    go_wp2_with fail
    refine (CS.out _).mono ?_
    rintro e w1 ⟨rfl, n1, rfl⟩
    go_wp2_with fail
    go_ret2
    exact ⟨rfl, _, rfl⟩

theorem Co.ratio_ways (p l : Int) : (Co.lossP p ∧ Co.lossP l) ∨ ¬ (Co.lossP p ∧ Co.lossP l) ∧ (¬ Co.lossP p ∨ (Co.lossP p ∧ ¬ Co.lossP l)) := by
  unfold Co.lossP; omega
set_option maxHeartbeats 1000000 in
theorem cratio_any (p l : Int) (w : World) : Calls Try.prog 27 #[.int .i64 p, .int .i64 l] w (Tri2 (Co.ratio p l) w) := by
  rcases Co.ratio_ways p l with h | ⟨h, h1⟩
  · have H := Lib.hid h
    by_cases hl : l = 0
    · have e : Co.ratio p l = (0, 0) := by rw [Co.ratio, if_neg (fun c => c h), if_pos hl]
      rw [e]
      subst hl
      clear e h
      go_enter Try.func27, Try.ntmps27
      go_wp2_with fail
      refine (cyes H.out.1 _).mono ?_
      rintro e w' ⟨rfl, rfl⟩
      go_wp2_with fail
      refine (cyes H.out.2 _).mono ?_
      rintro e w' ⟨rfl, rfl⟩
      go_wp2_with fail
      go_ret2
      exact ⟨rfl, 0, rfl⟩
    have hl2 : (l == 0) = false := by rw [beq_eq_false_iff_ne]; exact hl
    by_cases hp : p = 0
    · have e : Co.ratio p l = (100000000, 0) := by rw [Co.ratio, if_neg (fun c => c h), if_neg hl, if_pos hp]
      rw [e]
      subst hp
      clear e h
      go_enter Try.func27, Try.ntmps27
      go_wp2_with fail
      refine (cyes H.out.1 _).mono ?_
      rintro e w' ⟨rfl, rfl⟩
      go_wp2_with fail
      refine (cyes H.out.2 _).mono ?_
      rintro e w' ⟨rfl, rfl⟩
      go_wp2_with fail
      go_ret2
      exact ⟨rfl, 0, rfl⟩
    have hp2 : (p == 0) = false := by rw [beq_eq_false_iff_ne]; exact hp
    have e : Co.ratio p l = (min (l * 1000000 / p) 100000000, 0) := by rw [Co.ratio, if_neg (fun c => c h), if_neg hl, if_neg hp]
    obtain ⟨⟨p0, p1⟩, l0, l1⟩ := h
    have hm := Co.floor_md l 1000000 p l0 (by omega) (by omega) (by omega) (by omega) (by omega)
    have hq0 : 0 ≤ l * 1000000 / p := Int.ediv_nonneg (by omega) p0
    rw [e]
    obtain ⟨q, hq⟩ : ∃ q, l * 1000000 / p = q := ⟨_, rfl⟩
    rw [hq] at hm hq0 ⊢
    have CM := Lib.hid (muldiv_any l 1000000 p 2)
    rw [hm] at CM
    clear e hm hq
    by_cases hov : 17592186044416 < q
    · rw [if_pos hov] at CM
      have hmin : min q 100000000 = 100000000 := by omega
      rw [hmin]
      go_enter Try.func27, Try.ntmps27
      go_wp2_with fail
      refine (cyes H.out.1 _).mono ?_
      rintro e w' ⟨rfl, rfl⟩
      go_wp2_with fail
      refine (cyes H.out.2 _).mono ?_
      rintro e w' ⟨rfl, rfl⟩
      go_wp2_with fail
      refine (CM.out _).mono ?_
      rintro e w1 ⟨rfl, n1, rfl⟩
      go_wp2_with fail
      go_ret2
      exact ⟨rfl, _, rfl⟩
    · rw [if_neg hov] at CM
      by_cases hbig : 100000000 < q
      · have hmin : min q 100000000 = 100000000 := by omega
        rw [hmin]
        go_enter Try.func27, Try.ntmps27
        go_wp2_with fail
        refine (cyes H.out.1 _).mono ?_
        rintro e w' ⟨rfl, rfl⟩
        go_wp2_with fail
        refine (cyes H.out.2 _).mono ?_
        rintro e w' ⟨rfl, rfl⟩
        go_wp2_with fail
        refine (CM.out _).mono ?_
        rintro e w1 ⟨rfl, n1, rfl⟩
        go_wp2_with fail
        go_ret2
        exact ⟨rfl, _, rfl⟩
      · have hmin : min q 100000000 = q := by omega
        rw [hmin]
        go_enter Try.func27, Try.ntmps27
        go_wp2_with fail
        refine (cyes H.out.1 _).mono ?_
        rintro e w' ⟨rfl, rfl⟩
        go_wp2_with fail
        refine (cyes H.out.2 _).mono ?_
        rintro e w' ⟨rfl, rfl⟩
        go_wp2_with fail
        refine (CM.out _).mono ?_
        rintro e w1 ⟨rfl, n1, rfl⟩
        go_wp2_with fail
        go_ret2
        exact ⟨rfl, _, rfl⟩
  · have e : Co.ratio p l = (0, 1) := by rw [Co.ratio, if_pos h]
    rw [e]
    clear h e
    rcases h1 with h | h
    · have H := Lib.hid h
      clear h
      go_enter Try.func27, Try.ntmps27
      go_wp2_with fail
      refine (cno H.out _).mono ?_
      rintro e w' ⟨rfl, rfl⟩
      go_wp2_with fail
      go_ret2
      exact ⟨rfl, 0, rfl⟩
    · have H := Lib.hid h
      clear h
      go_enter Try.func27, Try.ntmps27
      go_wp2_with fail
      refine (cyes H.out.1 _).mono ?_
      rintro e w' ⟨rfl, rfl⟩
      go_wp2_with fail
      refine (cno H.out.2 _).mono ?_
      rintro e w' ⟨rfl, rfl⟩
      go_wp2_with fail
      go_ret2
      exact ⟨rfl, 0, rfl⟩

set_option maxHeartbeats 1000000 in
theorem rratio_any (p l : Int) (w : World) : Calls Try.prog 28 #[.int .i64 p, .int .i64 l] w (Tri2 (Co.ratio p l) w) := by
  rcases Co.ratio_ways p l with h | ⟨h, h1⟩
  · have H := Lib.hid h
    by_cases hp : p = 0
    · subst hp
      by_cases hl : l = 0
      · have e : Co.ratio 0 l = (0, 0) := by rw [Co.ratio, if_neg (fun c => c h), if_pos hl]
        rw [e]
        subst hl
        clear e h
        go_enter Try.func28, Try.ntmps28
        go_wp2_with fail
        refine (ryes H.out.1 _).mono ?_
        rintro e w' ⟨rfl, rfl⟩
        go_wp2_with fail
        refine (ryes H.out.2 _).mono ?_
        rintro e w' ⟨rfl, rfl⟩
        go_wp2_with fail
        go_ret2
        exact ⟨rfl, 0, rfl⟩
      · have e : Co.ratio 0 l = (100000000, 0) := by rw [Co.ratio, if_neg (fun c => c h), if_neg hl, if_pos rfl]
        rw [e]
        have hl2 : (l == 0) = false := by rw [beq_eq_false_iff_ne]; exact hl
        clear e h
        go_enter Try.func28, Try.ntmps28
        go_wp2_with fail
        refine (ryes H.out.1 _).mono ?_
        rintro e w' ⟨rfl, rfl⟩
        go_wp2_with fail
        refine (ryes H.out.2 _).mono ?_
        rintro e w' ⟨rfl, rfl⟩
        go_wp2_with fail
        go_ret2
        exact ⟨rfl, 0, rfl⟩
    have hp2 : (p == 0) = false := by rw [beq_eq_false_iff_ne]; exact hp
    have e : Co.ratio p l = (min (l * 1000000 / p) 100000000, 0) := by
      rw [Co.ratio, if_neg (fun c => c h)]
      by_cases hl : l = 0
      · rw [if_pos hl, hl]; simp; omega
      · rw [if_neg hl, if_neg hp]
    obtain ⟨⟨p0, p1⟩, l0, l1⟩ := h
    have hq0 : 0 ≤ l * 1000000 / p := Int.ediv_nonneg (by omega) p0
    rw [e]
    obtain ⟨q, hq⟩ : ∃ q, l * 1000000 / p = q := ⟨_, rfl⟩
    obtain ⟨r, hr⟩ : ∃ r, l * 1000000 % p = r := ⟨_, rfl⟩
    rw [hq] at hq0 ⊢
    have HQ := Lib.hid hq
    have HR := Lib.hid hr
    clear e hq hr
    by_cases hov : q ≤ 35184372088832
    · have CD := Lib.hid (fun W => divide_any l 1000000 p q r q r true W l0 (by omega) (by omega) (by omega) (by omega) (by omega) HQ HR (Lib.hid (.inl ⟨hov, rfl, rfl, rfl⟩)))
      go_enter Try.func28, Try.ntmps28
      go_wp2_with fail
      refine (ryes H.out.1 _).mono ?_
      rintro e w' ⟨rfl, rfl⟩
      go_wp2_with fail
      refine (ryes H.out.2 _).mono ?_
      rintro e w' ⟨rfl, rfl⟩
      go_wp2_with fail
      refine (CD.out _).mono ?_
      rintro e w1 ⟨rfl, n1, rfl⟩
      go_wp2_with fail
      go_ret2
      exact ⟨by first | rfl | (simp; omega), _, rfl⟩
    · have hmin : min q 100000000 = 100000000 := by omega
      rw [hmin]
      have CD := Lib.hid (fun W => divide_any l 1000000 p q r 0 0 false W l0 (by omega) (by omega) (by omega) (by omega) (by omega) HQ HR (Lib.hid (.inr ⟨by omega, rfl, rfl, rfl⟩)))
      go_enter Try.func28, Try.ntmps28
      go_wp2_with fail
      refine (ryes H.out.1 _).mono ?_
      rintro e w' ⟨rfl, rfl⟩
      go_wp2_with fail
      refine (ryes H.out.2 _).mono ?_
      rintro e w' ⟨rfl, rfl⟩
      go_wp2_with fail
      refine (CD.out _).mono ?_
      rintro e w1 ⟨rfl, n1, rfl⟩
      go_wp2_with fail
      go_ret2
      exact ⟨rfl, _, rfl⟩
  · have e : Co.ratio p l = (0, 1) := by rw [Co.ratio, if_pos h]
    rw [e]
    clear h e
    rcases h1 with h | h
    · have H := Lib.hid h
      clear h
      go_enter Try.func28, Try.ntmps28
      go_wp2_with fail
      refine (rno H.out _).mono ?_
      rintro e w' ⟨rfl, rfl⟩
      go_wp2_with fail
      go_ret2
      exact ⟨rfl, 0, rfl⟩
    · have H := Lib.hid h
      clear h
      go_enter Try.func28, Try.ntmps28
      go_wp2_with fail
      refine (ryes H.out.1 _).mono ?_
      rintro e w' ⟨rfl, rfl⟩
      go_wp2_with fail
      refine (rno H.out.2 _).mono ?_
      rintro e w' ⟨rfl, rfl⟩
      go_wp2_with fail
      go_ret2
      exact ⟨rfl, 0, rfl⟩
end Go.Proofs.Ytedkdflecdggpaa
