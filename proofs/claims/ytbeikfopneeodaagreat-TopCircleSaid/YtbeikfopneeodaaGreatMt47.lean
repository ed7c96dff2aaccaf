/- retro.Solve and the reference's Solve and SameCircle. The losses that the laws of layer 39 draw between the own ones and the greatest ones. -/
import Derived.Test.YtbeikfopneeodaaGreatMt46
import Derived.Handy
import Derived.Test.YtbeikfopneeodaaGreatMt43
import Derived.Test.YtbeikfopneeodaaGreatMt45
namespace Go.Proofs.YtbeikfopneeodaaGreat
open Go.RowKit
set_option linter.unusedVariables false

/-- what Solve returns -/
def CircPost (n : Nat) (V : Int) (s1 s2 : Option ((Nat → Int) × Nat)) (w : World) (e : Ending) (w' : World) : Prop :=
  ∃ (X Y : Option Addr) (mm cx cy : Nat), e = .returned (.tuple #[.agg #[.int .i64 (Re.cst n V s1 s2), .slice X mm cx, .slice Y mm cy, .int .i64 (Re.crn V s1 s2 (Re.rnd s1)), .int .i64 (Re.crn V s1 s2 (Re.rnd s2))], .int .i64 V]) ∧
    Below w.heap.size w w' ∧ mm = (if Re.both V s1 s2 then n else 0) ∧ Nums w' w'.heap.size X mm (Re.lst s1) ∧ Nums w' w'.heap.size Y mm (Re.lst s2)

theorem CircPost.bad {n : Nat} {V : Int} {s1 s2 : Option ((Nat → Int) × Nat)} {w w' : World} (hv : V ≠ 0) (hb : Below w.heap.size w w') :
    CircPost n V s1 s2 w (.returned (.tuple #[.agg #[.int .i64 0, .slice none 0 0, .slice none 0 0, .int .i64 0, .int .i64 0], .int .i64 V])) w' := by
  have hn : ¬ Re.both V s1 s2 := fun h => hv h.1
  exact ⟨none, none, 0, 0, 0, by rw [Re.cst, if_pos hv, Re.crn, Re.crn, if_neg hn, if_neg hn], hb, by rw [if_neg hn], Nums.zero, Nums.zero⟩
theorem CircPost.open {n : Nat} {s1 s2 : Option ((Nat → Int) × Nat)} {w w' : World} (hn : ¬ Re.both 0 s1 s2) (hb : Below w.heap.size w w') :
    CircPost n 0 s1 s2 w (.returned (.tuple #[.agg #[.int .i64 3, .slice none 0 0, .slice none 0 0, .int .i64 0, .int .i64 0], .int .i64 0])) w' :=
  ⟨none, none, 0, 0, 0, by rw [Re.cst, if_neg (by simp), if_neg hn, Re.crn, Re.crn, if_neg hn, if_neg hn], hb, by rw [if_neg hn], Nums.zero, Nums.zero⟩
theorem CircPost.done {n : Nat} {p1 p2 : (Nat → Int) × Nat} {w w' : World} {X Y : Option Addr} {cx cy : Nat} {st : Int} (hst : st = if eqn n p1.1 p2.1 then 1 else 2) (hb : Below w.heap.size w w') (hx : Nums w' w'.heap.size X n p1.1) (hy : Nums w' w'.heap.size Y n p2.1) :
    CircPost n 0 (some p1) (some p2) w (.returned (.tuple #[.agg #[.int .i64 st, .slice X n cx, .slice Y n cy, .int .i64 (p1.2 : Int), .int .i64 (p2.2 : Int)], .int .i64 0])) w' := by
  have hbo : Re.both 0 (some p1) (some p2) := ⟨rfl, rfl, rfl⟩
  exact ⟨X, Y, n, cx, cy, by rw [Re.cst, if_neg (by simp), if_pos hbo, Re.crn, Re.crn, if_pos hbo, if_pos hbo, hst]; rfl, hb, by rw [if_pos hbo], hx, hy⟩

theorem Nums.far {w : World} {B n : Nat} {A : Option Addr} {f : Nat → Int} (h : Nums w B A n f) {p : Addr} (hA : ∀ ad, A = some ad → ad.block ≠ p.block) (u : Value) : Nums (w.setCell p u) B A n f := fun hn => by
  obtain ⟨ad, e, hlt, hc⟩ := h hn
  exact ⟨ad, e, hlt, fun j hj => (World.cell?_setCell_other w p (ad.add j) u (fun e2 => hA ad e (by rw [← add_block ad j, e2]))).trans (hc j hj)⟩

theorem Nums.past {w : World} {B n : Nat} {A : Option Addr} {f : Nat → Int} (h : Nums w B A n f) {p : Addr} (hB : B ≤ p.block) (u : Value) : Nums (w.setCell p u) B A n f := Cells.setCell h hB u

def circ0 : Array Value := #[.int .i64 0, .slice none 0 0, .slice none 0 0, .int .i64 0, .int .i64 0]

theorem Has.put5 {w : World} {b : Nat} {y0 y1 y2 y3 y4 : Value} {t : TypeId} (h : Has w b #[y0, y1, y2, y3, y4] t) (x0 x1 x2 x3 x4 : Value) :
    Has (((((w.setCell ⟨b, 0, none⟩ x0).setCell ⟨b, 1, none⟩ x1).setCell ⟨b, 2, none⟩ x2).setCell ⟨b, 3, none⟩ x3).setCell ⟨b, 4, none⟩ x4) b #[x0, x1, x2, x3, x4] t := by
  have h1 := ((((h.put 0 x0).put 1 x1).put 2 x2).put 3 x3).put 4 x4
  simp only [List.setIfInBounds_toArray, List.set_cons_zero, List.set_cons_succ] at h1
  exact h1

theorem circ_out (W : World) (b : Nat) (v0 v1 v2 v3 v4 : Value) (e : Int) (tmps : Array Value) (h : Has W b #[v0, v1, v2, v3, v4] 30) (h0 : ∃ z, v0 = .int .i64 z) (h1 : ∃ a n c, v1 = .slice a n c) (h2 : ∃ a n c, v2 = .slice a n c) (h3 : ∃ z, v3 = .int .i64 z) (h4 : ∃ z, v4 = .int .i64 z)
    (ht : tmps.getD 4 undef = .pointer (some ⟨b, 0, none⟩)) (h5 : tmps.getD 5 undef = .int .i64 e) :
    (results Tryz.f6 tmps).run Tryz.prog W = .ok (.tuple #[.agg #[v0, v1, v2, v3, v4], .int .i64 e]) W := by
  have c0 := h.cell 0
  have c1 := h.cell 1
  have c2 := h.cell 2
  have c3 := h.cell 3
  have c4 := h.cell 4
  simp only [List.getElem?_toArray, List.getElem?_cons_zero, List.getElem?_cons_succ] at c0 c1 c2 c3 c4
  have ht' : tmps[4]?.getD undef = .pointer (some ⟨b, 0, none⟩) := by simpa using ht
  have h5' : tmps[5]?.getD undef = .int .i64 e := by simpa using h5
  obtain ⟨z0, rfl⟩ := h0
  obtain ⟨a1, n1, k1, rfl⟩ := h1
  obtain ⟨a2, n2, k2, rfl⟩ := h2
  obtain ⟨z3, rfl⟩ := h3
  obtain ⟨z4, rfl⟩ := h4
  simp [results, Tryz.results6, go_sem, ht', h5', c0, c1, c2, c3, c4]

set_option maxHeartbeats 4000000 in
theorem solve_any (A : Option Addr) (n c : Nat) (o : Nat → Int) (A2 : Option Addr) (m c2 : Nat) (R : Nat → Re.Rt) (w : World) (hn : n ≤ 9223372036854775807) (hm : m ≤ 9223372036854775807)
    (h : Nums w w.heap.size A n o) (h2 : Rets w w.heap.size A2 m R) :
    Calls Tryz.prog 6 #[.slice A n c, .slice A2 m c2] w (CircPost n (Re.verr n o m R) (Re.least n o m R) (Re.greatest n o m R) w) := by
  have CV : Hid (∀ W : World, Below w.heap.size w W → Calls Tryz.prog 15 #[.slice A n c, .slice A2 m c2] W (IntPost (Re.verr n o m R) W)) := Lib.hid fun W hb => rtvalidate_any A n c o A2 m c2 R W hn hm ((h.below hb).mono hb.size) ((h2.below hb).mono hb.size)
  have CL : Hid (∀ W : World, Below w.heap.size w W → Calls Tryz.prog 16 #[.slice A n c, .slice A2 m c2] W (TriPost n (Re.sev (Re.verr n o m R) (Re.least n o m R)) (Re.sop (Re.verr n o m R) (Re.least n o m R)) W)) := Lib.hid fun W hb => least_any A n c o A2 m c2 R W hn hm ((h.below hb).mono hb.size) ((h2.below hb).mono hb.size)
  have CG : Hid (∀ W : World, Below w.heap.size w W → Calls Tryz.prog 17 #[.slice A n c, .slice A2 m c2] W (TriPost n (Re.sev (Re.verr n o m R) (Re.greatest n o m R)) (Re.sop (Re.verr n o m R) (Re.greatest n o m R)) W)) := Lib.hid fun W hb => greatest_any A n c o A2 m c2 R W hn hm ((h.below hb).mono hb.size) ((h2.below hb).mono hb.size)
  have hV0 : Re.verr n o m R = 0 → n ≤ 16 := fun e => (Re.verr_fine e).2.1
  obtain ⟨V, hV⟩ : ∃ V, Re.verr n o m R = V := ⟨_, rfl⟩
  obtain ⟨s1, hs1⟩ : ∃ s, Re.least n o m R = s := ⟨_, rfl⟩
  obtain ⟨s2, hs2⟩ : ∃ s, Re.greatest n o m R = s := ⟨_, rfl⟩
  rw [hV, hs1] at CL
  rw [hV, hs2] at CG
  rw [hV] at CV hV0
  rw [hV, hs1, hs2]
  have HRZ : Hid (Has (w.alloc (.cells #[.int .i64 0, .slice none 0 0, .slice none 0 0, .int .i64 0, .int .i64 0] 30)) w.heap.size circ0 30) := Lib.hid (Has.new w _ _)
  have HB0 : Hid (Below w.heap.size w (w.alloc (.cells #[.int .i64 0, .slice none 0 0, .slice none 0 0, .int .i64 0, .int .i64 0] 30))) := Lib.hid ((Below.refl _ _).alloc (Nat.le_refl _) _)
  clear hV hs1 hs2 h h2 hn hm
  by_cases hv : V = 0
  · subst hv
    replace hV0 := hV0 rfl
    rw [show Re.sev 0 s1 = Re.ser s1 from if_pos rfl, show Re.sop 0 s1 = s1 from if_pos rfl] at CL
    rw [show Re.sev 0 s2 = Re.ser s2 from if_pos rfl, show Re.sop 0 s2 = s2 from if_pos rfl] at CG
    cases s1 with
    | none =>
      rw [show Re.ser none = 4 from rfl] at CL
      go_enter Tryz.func6, Tryz.ntmps6
      go_wp2_with fail
      refine (CV.out _ HB0.out).mono ?_
      rintro e w1 ⟨rfl, hb⟩
      replace HRZ := Lib.hid (HRZ.out.below hb HRZ.out.lt)
      replace HB0 : Hid (Below w.heap.size w w1) := Lib.hid (HB0.out.trans (hb.mono HB0.out.size))
      clear hb CV
      go_wp2_with fail
      refine (CL.out _ HB0.out).mono ?_
      rintro e w2 ⟨X, mm, c4, rfl, hb, hmm, hnx, hfr⟩
      replace HRZ := Lib.hid (HRZ.out.below hb HRZ.out.lt)
      replace HB0 : Hid (Below w.heap.size w w2) := Lib.hid (HB0.out.trans (hb.mono HB0.out.size))
      clear hb CL hmm hnx hfr
      unfold circ0 at HRZ
      obtain ⟨d0, d1, d2⟩ := HRZ.out.rules
      go_wp2_with fail
      refine bodyPost_ret (circ_out _ w.heap.size _ _ _ _ _ _ _ (HRZ.out.put5 (.int .i64 3) (.slice none 0 0) (.slice none 0 0) (.int .i64 0) (.int .i64 0)) ⟨_, rfl⟩ ⟨_, _, _, rfl⟩ ⟨_, _, _, rfl⟩ ⟨_, rfl⟩ ⟨_, rfl⟩ rfl rfl) rfl ?_
      exact CircPost.open (fun h => by have := h.2.1; simp at this) (by (repeat' (first | (with_reducible exact HB0.out) | (with_reducible refine Below.setCell ?_ ?_ _) | (with_reducible refine below_drewN ?_ _) | (with_reducible refine Below.drew ?_) | (with_reducible refine Below.alloc ?_ ?_ _))) <;> (first | omega | (simp <;> omega)))
    | some p1 =>
      rw [show Re.ser (some p1) = 0 from rfl] at CL
      cases s2 with
      | none =>
        rw [show Re.ser none = 4 from rfl] at CG
        go_enter Tryz.func6, Tryz.ntmps6
        go_wp2_with fail
        refine (CV.out _ HB0.out).mono ?_
        rintro e w1 ⟨rfl, hb⟩
        replace HRZ := Lib.hid (HRZ.out.below hb HRZ.out.lt)
        replace HB0 : Hid (Below w.heap.size w w1) := Lib.hid (HB0.out.trans (hb.mono HB0.out.size))
        clear hb CV
        go_wp2_with fail
        refine (CL.out _ HB0.out).mono ?_
        rintro e w2 ⟨X, mm, c4, rfl, hb, hmm, hnx, hfr⟩
        replace HRZ := Lib.hid (HRZ.out.below hb HRZ.out.lt)
        replace HB0 : Hid (Below w.heap.size w w2) := Lib.hid (HB0.out.trans (hb.mono HB0.out.size))
        clear hb CL hmm hnx hfr
        go_wp2_with fail
        refine (CG.out _ HB0.out).mono ?_
        rintro e w3 ⟨Y, my, c5, rfl, hb, hmm, hnx, hfr⟩
        replace HRZ := Lib.hid (HRZ.out.below hb HRZ.out.lt)
        replace HB0 : Hid (Below w.heap.size w w3) := Lib.hid (HB0.out.trans (hb.mono HB0.out.size))
        clear hb CG hmm hnx hfr
        unfold circ0 at HRZ
        obtain ⟨d0, d1, d2⟩ := HRZ.out.rules
        go_wp2_with fail
        refine bodyPost_ret (circ_out _ w.heap.size _ _ _ _ _ _ _ (HRZ.out.put5 (.int .i64 3) (.slice none 0 0) (.slice none 0 0) (.int .i64 0) (.int .i64 0)) ⟨_, rfl⟩ ⟨_, _, _, rfl⟩ ⟨_, _, _, rfl⟩ ⟨_, rfl⟩ ⟨_, rfl⟩ rfl rfl) rfl ?_
        exact CircPost.open (fun h => by have := h.2.2; simp at this) (by (repeat' (first | (with_reducible exact HB0.out) | (with_reducible refine Below.setCell ?_ ?_ _) | (with_reducible refine below_drewN ?_ _) | (with_reducible refine Below.drew ?_) | (with_reducible refine Below.alloc ?_ ?_ _))) <;> (first | omega | (simp <;> omega)))
      | some p2 =>
        rw [show Re.ser (some p2) = 0 from rfl] at CG
        obtain ⟨l1, r1⟩ := p1
        obtain ⟨l2, r2⟩ := p2
        go_enter Tryz.func6, Tryz.ntmps6
        go_wp2_with fail
        refine (CV.out _ HB0.out).mono ?_
        rintro e w1 ⟨rfl, hb⟩
        replace HRZ := Lib.hid (HRZ.out.below hb HRZ.out.lt)
        replace HB0 : Hid (Below w.heap.size w w1) := Lib.hid (HB0.out.trans (hb.mono HB0.out.size))
        clear hb CV
        go_wp2_with fail
        refine (CL.out _ HB0.out).mono ?_
        rintro e w2 ⟨X, mm, c4, rfl, hb, hmm, hnx, hfr⟩
        have HRZ0 := HRZ.out.lt
        simp only [Option.isSome_some, if_true] at hmm
        subst hmm
        replace HRZ := Lib.hid (HRZ.out.below hb HRZ.out.lt)
        replace HB0 : Hid (Below w.heap.size w w2) := Lib.hid (HB0.out.trans (hb.mono HB0.out.size))
        have HX : Hid (Nums w2 w2.heap.size X mm l1) := Lib.hid hnx
        have HXF : Hid (∀ ad, X = some ad → ad.block ≠ w.heap.size) := Lib.hid fun ad h => by have := hfr ad h; have := HRZ0; omega
        clear hb CL hnx hfr
        go_wp2_with fail
        refine (CG.out _ HB0.out).mono ?_
        rintro e w3 ⟨Y, my, c5, rfl, hb, hmm, hnx, hfr⟩
        have HRZ1 := HRZ.out.lt
        simp only [Option.isSome_some, if_true] at hmm
        subst hmm
        replace HRZ := Lib.hid (HRZ.out.below hb HRZ.out.lt)
        replace HB0 : Hid (Below w.heap.size w w3) := Lib.hid (HB0.out.trans (hb.mono HB0.out.size))
        replace HX := Lib.hid ((HX.out.below hb).mono hb.size)
        have HY : Hid (Nums w3 w3.heap.size Y my l2) := Lib.hid hnx
        have HYF : Hid (∀ ad, Y = some ad → ad.block ≠ w.heap.size) := Lib.hid fun ad h => by have := hfr ad h; have := HRZ1; omega
        clear hb CG hnx hfr
        have hs3 := HB0.out.size
        unfold circ0 at HRZ
        have CE : Hid (∀ W : World, Below w3.heap.size w3 W → Calls Tryz.prog 18 #[.slice X my c4, .slice Y my c5] W fun e w' => e = .returned (.bool (decide (eqn my l1 l2))) ∧ ∃ m, w' = W.drewN m) := Lib.hid fun W hb => equal_any X Y my c4 c5 l1 l2 w3.heap.size w3.heap.size W (by omega) (HX.out.below hb) (HY.out.below hb)
        unfold Re.rnd
        simp only
        by_cases heq : eqn my l1 l2
        · rw [decide_eq_true heq] at CE
          have HST : Hid ((1 : Int) = if eqn my l1 l2 then 1 else 2) := Lib.hid (if_pos heq).symm
          clear heq
          obtain ⟨d0, d1, d2⟩ := HRZ.out.rules
          go_wp2_with (first | (go_at_call 18; refine (CE.out _ ((Below.refl _ _).alloc (Nat.le_refl _) _)).mono ?_; rintro e w' ⟨rfl, nq, rfl⟩))
          refine bodyPost_ret (circ_out _ w.heap.size _ _ _ _ _ _ _ (((HRZ.out.alloc _).drewN _).put5 (.int .i64 1) (.slice X my c4) (.slice Y my c5) (.int .i64 r1) (.int .i64 r2)) ⟨_, rfl⟩ ⟨_, _, _, rfl⟩ ⟨_, _, _, rfl⟩ ⟨_, rfl⟩ ⟨_, rfl⟩ rfl rfl) rfl ?_
          exact CircPost.done HST.out (by (repeat' (first | (with_reducible exact HB0.out) | (with_reducible refine Below.setCell ?_ ?_ _) | (with_reducible refine below_drewN ?_ _) | (with_reducible refine Below.drew ?_) | (with_reducible refine Below.alloc ?_ ?_ _))) <;> (first | omega | (simp <;> omega))) (Nums.mono (B := w3.heap.size) (by repeat' (first | (with_reducible exact HX.out) | (with_reducible refine Nums.far ?_ HXF.out _) | (with_reducible refine Nums.past ?_ (by simp) _) | (with_reducible refine Nums.drewN ?_ _) | (with_reducible refine Nums.alloc ?_ (by first | omega | (simp <;> omega)) _))) (by simp)) (Nums.mono (B := w3.heap.size) (by repeat' (first | (with_reducible exact HY.out) | (with_reducible refine Nums.far ?_ HYF.out _) | (with_reducible refine Nums.past ?_ (by simp) _) | (with_reducible refine Nums.drewN ?_ _) | (with_reducible refine Nums.alloc ?_ (by first | omega | (simp <;> omega)) _))) (by simp))
        · rw [decide_eq_false heq] at CE
          have HST : Hid ((2 : Int) = if eqn my l1 l2 then 1 else 2) := Lib.hid (if_neg heq).symm
          clear heq
          obtain ⟨d0, d1, d2⟩ := HRZ.out.rules
          go_wp2_with (first | (go_at_call 18; refine (CE.out _ ((Below.refl _ _).alloc (Nat.le_refl _) _)).mono ?_; rintro e w' ⟨rfl, nq, rfl⟩))
          refine bodyPost_ret (circ_out _ w.heap.size _ _ _ _ _ _ _ ((((HRZ.out.alloc _).drewN _).far (p := ⟨w3.heap.size, 0, none⟩) (by simp only; omega) _).put5 (.int .i64 2) (.slice X my c4) (.slice Y my c5) (.int .i64 r1) (.int .i64 r2)) ⟨_, rfl⟩ ⟨_, _, _, rfl⟩ ⟨_, _, _, rfl⟩ ⟨_, rfl⟩ ⟨_, rfl⟩ rfl rfl) rfl ?_
          exact CircPost.done HST.out (by (repeat' (first | (with_reducible exact HB0.out) | (with_reducible refine Below.setCell ?_ ?_ _) | (with_reducible refine below_drewN ?_ _) | (with_reducible refine Below.drew ?_) | (with_reducible refine Below.alloc ?_ ?_ _))) <;> (first | omega | (simp <;> omega))) (Nums.mono (B := w3.heap.size) (by repeat' (first | (with_reducible exact HX.out) | (with_reducible refine Nums.far ?_ HXF.out _) | (with_reducible refine Nums.past ?_ (by simp) _) | (with_reducible refine Nums.drewN ?_ _) | (with_reducible refine Nums.alloc ?_ (by first | omega | (simp <;> omega)) _))) (by simp)) (Nums.mono (B := w3.heap.size) (by repeat' (first | (with_reducible exact HY.out) | (with_reducible refine Nums.far ?_ HYF.out _) | (with_reducible refine Nums.past ?_ (by simp) _) | (with_reducible refine Nums.drewN ?_ _) | (with_reducible refine Nums.alloc ?_ (by first | omega | (simp <;> omega)) _))) (by simp))
  · have hne : (V != 0) = true := by rw [bne_iff_ne]; exact hv
    go_enter Tryz.func6, Tryz.ntmps6
    go_wp2_with fail
    refine (CV.out _ HB0.out).mono ?_
    rintro e w1 ⟨rfl, hb⟩
    replace HRZ := Lib.hid (HRZ.out.below hb HRZ.out.lt)
    replace HB0 : Hid (Below w.heap.size w w1) := Lib.hid (HB0.out.trans (hb.mono HB0.out.size))
    clear hb CV
    unfold circ0 at HRZ
    obtain ⟨d0, d1, d2⟩ := HRZ.out.rules
    go_wp2_with fail
    refine bodyPost_ret (circ_out _ w.heap.size _ _ _ _ _ _ _ (HRZ.out.put5 (.int .i64 0) (.slice none 0 0) (.slice none 0 0) (.int .i64 0) (.int .i64 0)) ⟨_, rfl⟩ ⟨_, _, _, rfl⟩ ⟨_, _, _, rfl⟩ ⟨_, rfl⟩ ⟨_, rfl⟩ rfl rfl) rfl ?_
    exact CircPost.bad hv (by (repeat' (first | (with_reducible exact HB0.out) | (with_reducible refine Below.setCell ?_ ?_ _) | (with_reducible refine below_drewN ?_ _) | (with_reducible refine Below.drew ?_) | (with_reducible refine Below.alloc ?_ ?_ _))) <;> (first | omega | (simp <;> omega)))
end Go.Proofs.YtbeikfopneeodaaGreat
namespace Go.Proofs.YtbeikfopneeodaaGreat
open Go.RowKit
set_option linter.unusedVariables false

theorem Nums.keeps_ne {b n : Nat} {w w' : World} {A : Option Addr} {f : Nat → Int} (h : Nums w w.heap.size A n f) (hk : Keeps b w w') (hA : ∀ ad, A = some ad → ad.block ≠ b) : Nums w' w'.heap.size A n f := Cells.keeps_ne h hk hA
theorem Rets.keeps_ne {b n : Nat} {w w' : World} {A : Option Addr} {R : Nat → Re.Rt} (h : Rets w w.heap.size A n R) (hk : Keeps b w w') (hA : ∀ ad, A = some ad → ad.block ≠ b) : Rets w' w'.heap.size A n R := Cells.keeps_ne h hk hA
theorem Row.nums {w : World} {g n : Nat} {f : Nat → Int} (h : Row w g n 3 (fun i => .int .i64 (f i))) : Nums w w.heap.size (some ⟨g, 0, none⟩) n f := h.cells

/-- what list returns -/
def ListPost (b n : Nat) (lo hi : Nat → Int) (w : World) (e : Ending) (w' : World) : Prop := ∃ (g : Nat) (x : Nat → Int), e = .returned (.slice (some ⟨g, 0, none⟩) n n) ∧ w.heap.size ≤ g ∧ Row w' g n 3 (fun i => .int .i64 (x i)) ∧ (∀ i, i < n → lo i ≤ x i ∧ x i ≤ hi i) ∧ Keeps b w w' ∧ IsDeck w' b

end Go.Proofs.YtbeikfopneeodaaGreat
