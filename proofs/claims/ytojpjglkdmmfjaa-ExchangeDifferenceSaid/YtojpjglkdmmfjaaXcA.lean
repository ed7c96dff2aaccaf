/- exchange.Validate and the reference's Rates. -/
import Derived.Test.YtojpjglkdmmfjaaXcMath
import Derived.Test.YtojpjglkdmmfjaaKit
import Derived.Test.YtojpjglkdmmfjaaProg
import Derived.Lib.Hide
import Derived.Outline
import Derived.Deep.QuietTactic
import Derived.BigQuiet
import Derived.Deep.RegionHeld3
import Derived.Deep.DeepCutAuto
namespace Go.Proofs.Ytojpjglkdmmfjaa
open Go.RowKit
set_option linter.unusedVariables false

theorem ret_i64 {a b : Int} (h : a = b) : Ending.returned (.int .i64 a) = .returned (.int .i64 b) := by rw [h]
def IntPost (n : Int) (w : World) (e : Ending) (w' : World) : Prop := e = .returned (.int .i64 n) ∧ Below w.heap.size w w'
def PairPost (a : Int × Int) (w : World) (e : Ending) (w' : World) : Prop := e = .returned (.tuple #[.int .i64 a.1, .int .i64 a.2]) ∧ Below w.heap.size w w'

set_option maxHeartbeats 400000 in
theorem hv_any (h : Int) (w : World) : Calls Try.prog 28 #[.int .i64 h] w fun e w' => e = .returned (.bool (decide (Xc.hourP h))) ∧ w = w' := by
  by_cases h0 : 0 ≤ h
  · by_cases h1 : h ≤ 876599
    · rw [decide_eq_true (show Xc.hourP h from ⟨h0, h1⟩)]
      go_enter Try.func28, Try.ntmps28
      go_wp2
      go_ret
      exact ⟨rfl, rfl⟩
    · rw [decide_eq_false (show ¬ Xc.hourP h from fun c => h1 c.2)]
      have : decide (h ≤ 876599) = false := decide_eq_false h1
      go_enter Try.func28, Try.ntmps28
      go_wp2
      go_ret
      exact ⟨rfl, rfl⟩
  · rw [decide_eq_false (show ¬ Xc.hourP h from fun c => h0 c.1)]
    have : decide (0 ≤ h) = false := decide_eq_false h0
    go_enter Try.func28, Try.ntmps28
    go_wp2
    go_ret
    exact ⟨rfl, rfl⟩
set_option maxHeartbeats 400000 in
theorem cv_any (h : Int) (w : World) : Calls Try.prog 34 #[.int .i64 h] w fun e w' => e = .returned (.bool (decide (Xc.curP h))) ∧ w = w' := by
  by_cases h0 : 0 ≤ h
  · by_cases h1 : h ≤ 15
    · rw [decide_eq_true (show Xc.curP h from ⟨h0, h1⟩)]
      go_enter Try.func34, Try.ntmps34
      go_wp2
      go_ret
      exact ⟨rfl, rfl⟩
    · rw [decide_eq_false (show ¬ Xc.curP h from fun c => h1 c.2)]
      have : decide (h ≤ 15) = false := decide_eq_false h1
      go_enter Try.func34, Try.ntmps34
      go_wp2
      go_ret
      exact ⟨rfl, rfl⟩
  · rw [decide_eq_false (show ¬ Xc.curP h from fun c => h0 c.1)]
    have : decide (0 ≤ h) = false := decide_eq_false h0
    go_enter Try.func34, Try.ntmps34
    go_wp2
    go_ret
    exact ⟨rfl, rfl⟩
set_option maxHeartbeats 400000 in
theorem rh_any (h : Int) (w : World) : Calls Try.prog 30 #[.int .i64 h] w fun e w' => e = .returned (.bool (decide (Xc.hourP h))) ∧ w = w' := by
  by_cases h0 : 0 ≤ h
  · by_cases h1 : h ≤ 876599
    · rw [decide_eq_true (show Xc.hourP h from ⟨h0, h1⟩)]
      go_enter Try.func30, Try.ntmps30
      go_wp2
      go_ret
      exact ⟨rfl, rfl⟩
    · rw [decide_eq_false (show ¬ Xc.hourP h from fun c => h1 c.2)]
      have : decide (h ≤ 876599) = false := decide_eq_false h1
      go_enter Try.func30, Try.ntmps30
      go_wp2
      go_ret
      exact ⟨rfl, rfl⟩
  · rw [decide_eq_false (show ¬ Xc.hourP h from fun c => h0 c.1)]
    have : decide (0 ≤ h) = false := decide_eq_false h0
    go_enter Try.func30, Try.ntmps30
    go_wp2
    go_ret
    exact ⟨rfl, rfl⟩
set_option maxHeartbeats 400000 in
theorem rcu_any (h : Int) (w : World) : Calls Try.prog 33 #[.int .i64 h] w fun e w' => e = .returned (.bool (decide (Xc.curP h))) ∧ w = w' := by
  by_cases h0 : 0 ≤ h
  · by_cases h1 : h ≤ 15
    · rw [decide_eq_true (show Xc.curP h from ⟨h0, h1⟩)]
      go_enter Try.func33, Try.ntmps33
      go_wp2
      go_ret
      exact ⟨rfl, rfl⟩
    · rw [decide_eq_false (show ¬ Xc.curP h from fun c => h1 c.2)]
      have : decide (h ≤ 15) = false := decide_eq_false h1
      go_enter Try.func33, Try.ntmps33
      go_wp2
      go_ret
      exact ⟨rfl, rfl⟩
  · rw [decide_eq_false (show ¬ Xc.curP h from fun c => h0 c.1)]
    have : decide (0 ≤ h) = false := decide_eq_false h0
    go_enter Try.func33, Try.ntmps33
    go_wp2
    go_ret
    exact ⟨rfl, rfl⟩
theorem hv_yes {h : Int} (c : Xc.hourP h) (w : World) : Calls Try.prog 28 #[.int .i64 h] w fun e w' => e = .returned (.bool true) ∧ w = w' := by
  have := hv_any h w
  rwa [decide_eq_true c] at this
theorem hv_no {h : Int} (c : ¬ Xc.hourP h) (w : World) : Calls Try.prog 28 #[.int .i64 h] w fun e w' => e = .returned (.bool false) ∧ w = w' := by
  have := hv_any h w
  rwa [decide_eq_false c] at this
theorem cv_yes {h : Int} (c : Xc.curP h) (w : World) : Calls Try.prog 34 #[.int .i64 h] w fun e w' => e = .returned (.bool true) ∧ w = w' := by
  have := cv_any h w
  rwa [decide_eq_true c] at this
theorem cv_no {h : Int} (c : ¬ Xc.curP h) (w : World) : Calls Try.prog 34 #[.int .i64 h] w fun e w' => e = .returned (.bool false) ∧ w = w' := by
  have := cv_any h w
  rwa [decide_eq_false c] at this
theorem rh_yes {h : Int} (c : Xc.hourP h) (w : World) : Calls Try.prog 30 #[.int .i64 h] w fun e w' => e = .returned (.bool true) ∧ w = w' := by
  have := rh_any h w
  rwa [decide_eq_true c] at this
theorem rh_no {h : Int} (c : ¬ Xc.hourP h) (w : World) : Calls Try.prog 30 #[.int .i64 h] w fun e w' => e = .returned (.bool false) ∧ w = w' := by
  have := rh_any h w
  rwa [decide_eq_false c] at this
theorem rcu_yes {h : Int} (c : Xc.curP h) (w : World) : Calls Try.prog 33 #[.int .i64 h] w fun e w' => e = .returned (.bool true) ∧ w = w' := by
  have := rcu_any h w
  rwa [decide_eq_true c] at this
theorem rcu_no {h : Int} (c : ¬ Xc.curP h) (w : World) : Calls Try.prog 33 #[.int .i64 h] w fun e w' => e = .returned (.bool false) ∧ w = w' := by
  have := rcu_any h w
  rwa [decide_eq_false c] at this

def t3V (x : T3) : Value := .agg #[.int .i64 x.a, .int .i64 x.b, .int .i64 x.c]

set_option maxHeartbeats 400000 in
theorem after_any (p q : T3) (B : Bool) (w : World) (hB : decide (Xc.aft p q) = B) : Calls Try.prog 29 #[.agg #[.int .i64 p.a, .int .i64 p.b, .int .i64 p.c], .agg #[.int .i64 q.a, .int .i64 q.b, .int .i64 q.c]] w fun e w' => e = .returned (.bool B) ∧ Below w.heap.size w w' := by
  obtain ⟨p0, p1, p2⟩ := p
  obtain ⟨q0, q1, q2⟩ := q
  subst hB
  unfold Xc.aft
  simp only
  by_cases h : q0 = p0
  · subst h
    simp only [if_true]
    go_enter Try.func29, Try.ntmps29
    go_wp2
    go_ret
    exact ⟨rfl, (by (repeat' (first | (with_reducible exact Below.refl _ _) | (with_reducible refine Below.setCell ?_ ?_ _) | (with_reducible refine below_drewN ?_ _) | (with_reducible refine Below.drew ?_) | (with_reducible refine Below.alloc ?_ ?_ _))) <;> (first | omega | (simp <;> omega)))⟩
  · have h1 : (q0 == p0) = false := by rw [beq_eq_false_iff_ne]; exact h
    simp only [if_neg h]
    clear h
    go_enter Try.func29, Try.ntmps29
    go_wp2
    go_ret
    exact ⟨rfl, (by (repeat' (first | (with_reducible exact Below.refl _ _) | (with_reducible refine Below.setCell ?_ ?_ _) | (with_reducible refine below_drewN ?_ _) | (with_reducible refine Below.drew ?_) | (with_reducible refine Below.alloc ?_ ?_ _))) <;> (first | omega | (simp <;> omega)))⟩
namespace Xc
theorem rc_cur {f : Nat → T3} {i : Nat} (h : ¬ cuP (f i)) : rc f i = 15 := if_pos h
theorem rc_range {f : Nat → T3} {i : Nat} (h : cuP (f i)) (h2 : ¬ puP (f i)) : rc f i = 1 := by rw [rc, if_neg (fun c => c h), if_pos h2]
theorem rc_order {f : Nat → T3} {i : Nat} (h : cuP (f i)) (h2 : puP (f i)) (h3 : 0 < i ∧ ¬ aft (f (i - 1)) (f i)) : rc f i = 13 := by rw [rc, if_neg (fun c => c h), if_neg (fun c => c h2), if_pos h3]
theorem rc_fine {f : Nat → T3} {i : Nat} (h : cuP (f i)) (h2 : puP (f i)) (h3 : ¬ (0 < i ∧ ¬ aft (f (i - 1)) (f i))) : rc f i = 0 := by rw [rc, if_neg (fun c => c h), if_neg (fun c => c h2), if_neg h3]
end Xc
end Go.Proofs.Ytojpjglkdmmfjaa
