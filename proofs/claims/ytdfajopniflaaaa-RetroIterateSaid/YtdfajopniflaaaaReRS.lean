/- The reference's Solve and SameCircle. -/
import Derived.Test.YtdfajopniflaaaaReSo
namespace Go.Proofs.Ytdfajopniflaaaa
open Go.RowKit
set_option linter.unusedVariables false

set_option maxHeartbeats 4000000 in
theorem rsolve_any (A : Option Addr) (n c : Nat) (o : Nat → Int) (A2 : Option Addr) (m c2 : Nat) (R : Nat → Re.Rt) (w : World) (hn : n ≤ 9223372036854775807) (hm : m ≤ 9223372036854775807)
    (h : Nums w w.heap.size A n o) (h2 : Rets w w.heap.size A2 m R) :
    Calls Try.prog 17 #[.slice A n c, .slice A2 m c2] w (CircPost n (Re.verr n o m R) (Re.least n o m R) (Re.greatest n o m R) w) := by
  have CV : Hid (∀ W : World, Below w.heap.size w W → Calls Try.prog 29 #[.slice A n c, .slice A2 m c2] W (IntPost (Re.verr n o m R) W)) := Lib.hid fun W hb => rvalidate_any A n c o A2 m c2 R W hn hm ((h.below hb).mono hb.size) ((h2.below hb).mono hb.size)
  have CL : Hid (∀ W : World, Below w.heap.size w W → Calls Try.prog 13 #[.slice A n c, .slice A2 m c2] W (TriPost n (Re.sev (Re.verr n o m R) (Re.least n o m R)) (Re.sop (Re.verr n o m R) (Re.least n o m R)) W)) := Lib.hid fun W hb => rleast_any A n c o A2 m c2 R W hn hm ((h.below hb).mono hb.size) ((h2.below hb).mono hb.size)
  have CG : Hid (∀ W : World, Below w.heap.size w W → Calls Try.prog 15 #[.slice A n c, .slice A2 m c2] W (TriPost n (Re.sev (Re.verr n o m R) (Re.greatest n o m R)) (Re.sop (Re.verr n o m R) (Re.greatest n o m R)) W)) := Lib.hid fun W hb => rgreatest_any A n c o A2 m c2 R W hn hm ((h.below hb).mono hb.size) ((h2.below hb).mono hb.size)
  have hV0 : Re.verr n o m R = 0 → n ≤ 16 := fun e => (Re.verr_fine e).2.1
  obtain ⟨V, hV⟩ : ∃ V, Re.verr n o m R = V := ⟨_, rfl⟩
  obtain ⟨s1, hs1⟩ : ∃ s, Re.least n o m R = s := ⟨_, rfl⟩
  obtain ⟨s2, hs2⟩ : ∃ s, Re.greatest n o m R = s := ⟨_, rfl⟩
  rw [hV, hs1] at CL
  rw [hV, hs2] at CG
  rw [hV] at CV hV0
  rw [hV, hs1, hs2]
  have HRZ : Hid (Has (w.alloc (.cells #[.int .i64 0, .slice none 0 0, .slice none 0 0, .int .i64 0, .int .i64 0] 36)) w.heap.size circ0 36) := Lib.hid (Has.new w _ _)
  have HB0 : Hid (Below w.heap.size w (w.alloc (.cells #[.int .i64 0, .slice none 0 0, .slice none 0 0, .int .i64 0, .int .i64 0] 36))) := Lib.hid ((Below.refl _ _).alloc (Nat.le_refl _) _)
  clear hV hs1 hs2 h h2 hn hm
  by_cases hv : V = 0
  · subst hv
    replace hV0 := hV0 rfl
    rw [show Re.sev 0 s1 = Re.ser s1 from if_pos rfl, show Re.sop 0 s1 = s1 from if_pos rfl] at CL
    rw [show Re.sev 0 s2 = Re.ser s2 from if_pos rfl, show Re.sop 0 s2 = s2 from if_pos rfl] at CG
    go_enter Try.func17, Try.ntmps17
    go_wp2_with fail
    refine (CV.out _ HB0.out).mono ?_
    rintro e w1 ⟨rfl, hb⟩
    replace HRZ := Lib.hid (HRZ.out.below hb HRZ.out.lt)
    replace HB0 : Hid (Below w.heap.size w w1) := Lib.hid (HB0.out.trans (hb.mono HB0.out.size))
    clear hb CV
    go_wp2_with fail
    refine (CL.out _ HB0.out).mono ?_
    rintro e w2 ⟨X, mx, c4, rfl, hb, hmx, hnx, hfr⟩
    have HRZ0 := HRZ.out.lt
    replace HRZ := Lib.hid (HRZ.out.below hb HRZ.out.lt)
    replace HB0 : Hid (Below w.heap.size w w2) := Lib.hid (HB0.out.trans (hb.mono HB0.out.size))
    have HX := Lib.hid hnx
    have HMX := Lib.hid hmx
    have HXF : Hid (∀ ad, X = some ad → ad.block ≠ w.heap.size) := Lib.hid fun ad h => by have := hfr ad h; have := HRZ0; omega
    clear hb CL hnx hfr hmx
    go_wp2_with fail
    refine (CG.out _ HB0.out).mono ?_
    rintro e w3 ⟨Y, my, c5, rfl, hb, hmy, hny, hfr⟩
    have HRZ1 := HRZ.out.lt
    replace HRZ := Lib.hid (HRZ.out.below hb HRZ.out.lt)
    replace HB0 : Hid (Below w.heap.size w w3) := Lib.hid (HB0.out.trans (hb.mono HB0.out.size))
    replace HX := Lib.hid ((HX.out.below hb).mono hb.size)
    have HY := Lib.hid hny
    have HMY := Lib.hid hmy
    have HYF : Hid (∀ ad, Y = some ad → ad.block ≠ w.heap.size) := Lib.hid fun ad h => by have := hfr ad h; have := HRZ1; omega
    clear hb CG hny hfr hmy
    have hs3 := HB0.out.size
    unfold circ0 at HRZ
    obtain ⟨d0, d1, d2⟩ := HRZ.out.rules
    cases s1 with
    | none =>
      rw [show Re.ser none = 4 from rfl]
      go_wp2_with fail
      refine bodyPost_ret (rcirc_out _ w.heap.size _ _ _ _ _ _ _ (HRZ.out.put5 (.int .i64 3) (.slice none 0 0) (.slice none 0 0) (.int .i64 0) (.int .i64 0)) ⟨_, rfl⟩ ⟨_, _, _, rfl⟩ ⟨_, _, _, rfl⟩ ⟨_, rfl⟩ ⟨_, rfl⟩ rfl rfl) rfl ?_
      exact CircPost.open (fun h => by have := h.2.1; simp at this) (by (repeat' (first | (with_reducible exact HB0.out) | (with_reducible refine Below.setCell ?_ ?_ _) | (with_reducible refine below_drewN ?_ _) | (with_reducible refine Below.drew ?_) | (with_reducible refine Below.alloc ?_ ?_ _))) <;> (first | omega | (simp <;> omega)))
    | some p1 =>
      rw [show Re.ser (some p1) = 0 from rfl]
      cases s2 with
      | none =>
        rw [show Re.ser none = 4 from rfl]
        go_wp2_with fail
        refine bodyPost_ret (rcirc_out _ w.heap.size _ _ _ _ _ _ _ (HRZ.out.put5 (.int .i64 3) (.slice none 0 0) (.slice none 0 0) (.int .i64 0) (.int .i64 0)) ⟨_, rfl⟩ ⟨_, _, _, rfl⟩ ⟨_, _, _, rfl⟩ ⟨_, rfl⟩ ⟨_, rfl⟩ rfl rfl) rfl ?_
        exact CircPost.open (fun h => by have := h.2.2; simp at this) (by (repeat' (first | (with_reducible exact HB0.out) | (with_reducible refine Below.setCell ?_ ?_ _) | (with_reducible refine below_drewN ?_ _) | (with_reducible refine Below.drew ?_) | (with_reducible refine Below.alloc ?_ ?_ _))) <;> (first | omega | (simp <;> omega)))
      | some p2 =>
        rw [show Re.ser (some p2) = 0 from rfl]
        obtain ⟨l1, r1⟩ := p1
        obtain ⟨l2, r2⟩ := p2
        have hmx := HMX.out
        have hmy := HMY.out
        clear HMX HMY
        simp only [Option.isSome_some, if_true] at hmx hmy
        subst hmx
        have hmy' : my = mx := hmy
        subst hmy'
        unfold Re.lst at HX HY
        simp only at HX HY
        have CE : Hid (∀ W : World, Below w3.heap.size w3 W → Calls Try.prog 18 #[.slice X my c4, .slice Y my c5] W fun e w' => e = .returned (.bool (decide (eqn my l1 l2))) ∧ ∃ m, w' = W.drewN m) := Lib.hid fun W hb => same_any X Y my c4 c5 l1 l2 w3.heap.size w3.heap.size W (by omega) (HX.out.below hb) (HY.out.below hb)
        unfold Re.rnd
        simp only
        by_cases heq : eqn my l1 l2
        · rw [decide_eq_true heq] at CE
          have HST : Hid ((1 : Int) = if eqn my l1 l2 then 1 else 2) := Lib.hid (if_pos heq).symm
          clear heq hmy
          go_wp2_with (first | (go_at_call 18; refine (CE.out _ ((Below.refl _ _).alloc (Nat.le_refl _) _)).mono ?_; rintro e w' ⟨rfl, nq, rfl⟩))
          refine bodyPost_ret (rcirc_out _ w.heap.size _ _ _ _ _ _ _ ((((HRZ.out.alloc _).drewN _).far (p := ⟨w3.heap.size, 0, none⟩) (by simp only; omega) _).put5 (.int .i64 1) (.slice X my c4) (.slice Y my c5) (.int .i64 r1) (.int .i64 r2)) ⟨_, rfl⟩ ⟨_, _, _, rfl⟩ ⟨_, _, _, rfl⟩ ⟨_, rfl⟩ ⟨_, rfl⟩ rfl rfl) rfl ?_
          exact CircPost.done HST.out (by (repeat' (first | (with_reducible exact HB0.out) | (with_reducible refine Below.setCell ?_ ?_ _) | (with_reducible refine below_drewN ?_ _) | (with_reducible refine Below.drew ?_) | (with_reducible refine Below.alloc ?_ ?_ _))) <;> (first | omega | (simp <;> omega))) (Nums.mono (B := w3.heap.size) (by repeat' (first | (with_reducible exact HX.out) | (with_reducible refine Nums.far ?_ HXF.out _) | (with_reducible refine Nums.past ?_ (by simp) _) | (with_reducible refine Nums.drewN ?_ _) | (with_reducible refine Nums.alloc ?_ (by first | omega | (simp <;> omega)) _))) (by simp)) (Nums.mono (B := w3.heap.size) (by repeat' (first | (with_reducible exact HY.out) | (with_reducible refine Nums.far ?_ HYF.out _) | (with_reducible refine Nums.past ?_ (by simp) _) | (with_reducible refine Nums.drewN ?_ _) | (with_reducible refine Nums.alloc ?_ (by first | omega | (simp <;> omega)) _))) (by simp))
        · rw [decide_eq_false heq] at CE
          have HST : Hid ((2 : Int) = if eqn my l1 l2 then 1 else 2) := Lib.hid (if_neg heq).symm
          clear heq hmy
          go_wp2_with (first | (go_at_call 18; refine (CE.out _ ((Below.refl _ _).alloc (Nat.le_refl _) _)).mono ?_; rintro e w' ⟨rfl, nq, rfl⟩))
          refine bodyPost_ret (rcirc_out _ w.heap.size _ _ _ _ _ _ _ (((HRZ.out.alloc _).drewN _).put5 (.int .i64 2) (.slice X my c4) (.slice Y my c5) (.int .i64 r1) (.int .i64 r2)) ⟨_, rfl⟩ ⟨_, _, _, rfl⟩ ⟨_, _, _, rfl⟩ ⟨_, rfl⟩ ⟨_, rfl⟩ rfl rfl) rfl ?_
          exact CircPost.done HST.out (by (repeat' (first | (with_reducible exact HB0.out) | (with_reducible refine Below.setCell ?_ ?_ _) | (with_reducible refine below_drewN ?_ _) | (with_reducible refine Below.drew ?_) | (with_reducible refine Below.alloc ?_ ?_ _))) <;> (first | omega | (simp <;> omega))) (Nums.mono (B := w3.heap.size) (by repeat' (first | (with_reducible exact HX.out) | (with_reducible refine Nums.far ?_ HXF.out _) | (with_reducible refine Nums.past ?_ (by simp) _) | (with_reducible refine Nums.drewN ?_ _) | (with_reducible refine Nums.alloc ?_ (by first | omega | (simp <;> omega)) _))) (by simp)) (Nums.mono (B := w3.heap.size) (by repeat' (first | (with_reducible exact HY.out) | (with_reducible refine Nums.far ?_ HYF.out _) | (with_reducible refine Nums.past ?_ (by simp) _) | (with_reducible refine Nums.drewN ?_ _) | (with_reducible refine Nums.alloc ?_ (by first | omega | (simp <;> omega)) _))) (by simp))
  · have hne : (V != 0) = true := by rw [bne_iff_ne]; exact hv
    go_enter Try.func17, Try.ntmps17
    go_wp2_with fail
    refine (CV.out _ HB0.out).mono ?_
    rintro e w1 ⟨rfl, hb⟩
    replace HRZ := Lib.hid (HRZ.out.below hb HRZ.out.lt)
    replace HB0 : Hid (Below w.heap.size w w1) := Lib.hid (HB0.out.trans (hb.mono HB0.out.size))
    clear hb CV
    unfold circ0 at HRZ
    obtain ⟨d0, d1, d2⟩ := HRZ.out.rules
    go_wp2_with fail
    refine bodyPost_ret (rcirc_out _ w.heap.size _ _ _ _ _ _ _ (HRZ.out.put5 (.int .i64 0) (.slice none 0 0) (.slice none 0 0) (.int .i64 0) (.int .i64 0)) ⟨_, rfl⟩ ⟨_, _, _, rfl⟩ ⟨_, _, _, rfl⟩ ⟨_, rfl⟩ ⟨_, rfl⟩ rfl rfl) rfl ?_
    exact CircPost.bad hv (by (repeat' (first | (with_reducible exact HB0.out) | (with_reducible refine Below.setCell ?_ ?_ _) | (with_reducible refine below_drewN ?_ _) | (with_reducible refine Below.drew ?_) | (with_reducible refine Below.alloc ?_ ?_ _))) <;> (first | omega | (simp <;> omega)))

theorem arr2_eq (a b : Int) (w : World) : (Op.equalIn 10000 34 (.agg #[.int .i64 a, .int .i64 b]) (.agg #[.int .i64 a, .int .i64 b])).run Try.prog w = .ok true w := by
  have u3 := Try.underlying3
  have a3 := Try.isAgg3
  have z3 := Try.sizeOf3
  rw [show (10000 : Nat) = 9999 + 1 from rfl, Op.equalIn]
  simp only [Sem.run_bind, run_underlying Try.underlying34, Result.andThen_ok]
  simp only [Std.Legacy.Range.forIn_eq_forIn_range', Std.Legacy.Range.size, Nat.sub_zero, Nat.add_sub_cancel, Nat.div_one, List.range'_succ, List.range'_zero, List.forIn_cons, List.forIn_nil]
  go_simp

set_option maxHeartbeats 1000000 in
theorem samecircle_yes (st r1 r2 : Int) (X Y X' Y' : Option Addr) (mm cx cy cx' cy' : Nat) (l1 l2 : Nat → Int) (w : World) (hm : mm ≤ 9223372036854775807) (h1 : Nums w w.heap.size X mm l1) (h2 : Nums w w.heap.size Y mm l2) (h3 : Nums w w.heap.size X' mm l1) (h4 : Nums w w.heap.size Y' mm l2) :
    Calls Try.prog 19 #[.agg #[.int .i64 st, .slice X mm cx, .slice Y mm cy, .int .i64 r1, .int .i64 r2], .agg #[.int .i64 st, .slice X' mm cx', .slice Y' mm cy', .int .i64 r1, .int .i64 r2]] w (BoolPost true w) := by
  have C1 : Hid (∀ W : World, Below w.heap.size w W → Calls Try.prog 18 #[.slice X mm cx, .slice X' mm cx'] W fun e w' => e = .returned (.bool true) ∧ ∃ m, w' = W.drewN m) := Lib.hid fun W hb => same_yes X X' mm cx cx' l1 w.heap.size w.heap.size W hm (h1.below hb) (h3.below hb)
  have C2 : Hid (∀ W : World, Below w.heap.size w W → Calls Try.prog 18 #[.slice Y mm cy, .slice Y' mm cy'] W fun e w' => e = .returned (.bool true) ∧ ∃ m, w' = W.drewN m) := Lib.hid fun W hb => same_yes Y Y' mm cy cy' l2 w.heap.size w.heap.size W hm (h2.below hb) (h4.below hb)
  have HB : Hid (Below w.heap.size w ((w.alloc (.cells #[.int .i64 st, .slice X mm cx, .slice Y mm cy, .int .i64 r1, .int .i64 r2] 36)).alloc (.cells #[.int .i64 st, .slice X' mm cx', .slice Y' mm cy', .int .i64 r1, .int .i64 r2] 36))) := Lib.hid (((Below.refl _ _).alloc (Nat.le_refl _) _).alloc (by simp) _)
  clear h1 h2 h3 h4
  have heq := arr2_eq r1 r2
  go_enter Try.func19, Try.ntmps19
  go_wp2_with fail
  refine (C1.out _ HB.out).mono ?_
  rintro e w1 ⟨rfl, nq, rfl⟩
  go_wp2_with fail
  refine (C2.out _ (below_drewN HB.out _)).mono ?_
  rintro e w1 ⟨rfl, nq2, rfl⟩
  go_wp2_with fail
  go_ret
  exact ⟨rfl, below_drewN HB.out _⟩
end Go.Proofs.Ytdfajopniflaaaa
