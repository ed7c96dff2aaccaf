/- Reserved words, and names (printed by wip/gen/won.py). Words for memory of this family of proofs: the cells of a slice as a function, what leaves them alone, and an append from such a slice. No program in sight. A block that is known whole: what reads it and what leaves it alone. No program in sight. -/
import Derived.Test.YtlbkhhbbkedhkaaGreatDoorMa01
import Derived.Below
import Derived.Laws.OwnMore
import Derived.Deep.AppendLies
import Derived.Deep.Draws
import Derived.Maps.AppendAt
import Derived.Laws.AppendOwnNone
import Derived.OwnWalk
import Derived.Deep.QuietTactic
import Derived.BigQuiet
import Derived.Laws.Rows
namespace Go.Proofs.YtlbkhhbbkedhkaaGreatDoor
open Go.RowKit
set_option linter.unusedVariables false
set_option linter.unusedSimpArgs false

/-- the reserved words -/
def resB (s : ByteArray) : Bool := s.toList == ([97, 110, 100] : List UInt8) || s.toList == ([97, 118, 101, 114, 97, 103, 101] : List UInt8) || s.toList == ([99, 111, 105, 110, 115, 117, 114, 97, 110, 99, 101] : List UInt8) || s.toList == ([99, 111, 110, 100, 105, 116, 105, 111, 110] : List UInt8) || s.toList == ([99, 111, 118, 101, 114] : List UInt8) || s.toList == ([100, 101, 100, 117, 99, 116, 105, 98, 108, 101] : List UInt8) || s.toList == ([100, 101, 102, 105, 110, 101] : List UInt8) || s.toList == ([101, 110, 100] : List UInt8) || s.toList == ([101, 110, 100, 111, 114, 115, 101] : List UInt8) || s.toList == ([101, 120, 99, 108, 117, 100, 101] : List UInt8) || s.toList == ([102, 97, 108, 115, 101] : List UInt8) || s.toList == ([102, 114, 97, 110, 99, 104, 105, 115, 101] : List UInt8) || s.toList == ([102, 114, 111, 109] : List UInt8) || s.toList == ([105, 110] : List UInt8) || s.toList == ([108, 105, 109, 105, 116] : List UInt8) || s.toList == ([110, 111, 116] : List UInt8) || s.toList == ([111, 114] : List UInt8) || s.toList == ([114, 101, 109, 111, 118, 101] : List UInt8) || s.toList == ([115, 117, 98, 108, 105, 109, 105, 116] : List UInt8) || s.toList == ([116, 111] : List UInt8) || s.toList == ([116, 114, 117, 101] : List UInt8) || s.toList == ([117, 110, 108, 101, 115, 115] : List UInt8) || s.toList == ([119, 104, 101, 110] : List UInt8)

set_option maxRecDepth 100000 in
set_option maxHeartbeats 4000000 in
theorem reserved_any (s : ByteArray) (w : World) : Calls Tryz.prog 102 #[.string s] w fun e w' => e = .returned (.bool (resB s)) ∧ w = w' := by
  have hres : resB s = resB s := rfl
  conv at hres => rhs; unfold resB
  cases h0 : (s.toList == ([97, 110, 100] : List UInt8)) with
  | true =>
    simp only [h0, Bool.true_or, Bool.or_true, Bool.false_or] at hres
    have HR := Lib.hid hres
    clear hres
    go_enter Tryz.func102, Tryz.ntmps102
    go_wp2_with fail
    go_ret
    exact ⟨by rw [HR.out]; rfl, rfl⟩
  | false =>
  cases h1 : (s.toList == ([97, 118, 101, 114, 97, 103, 101] : List UInt8)) with
  | true =>
    simp only [h0, h1, Bool.true_or, Bool.or_true, Bool.false_or] at hres
    have HR := Lib.hid hres
    clear hres
    go_enter Tryz.func102, Tryz.ntmps102
    go_wp2_with fail
    go_ret
    exact ⟨by rw [HR.out]; rfl, rfl⟩
  | false =>
  cases h2 : (s.toList == ([99, 111, 105, 110, 115, 117, 114, 97, 110, 99, 101] : List UInt8)) with
  | true =>
    simp only [h0, h1, h2, Bool.true_or, Bool.or_true, Bool.false_or] at hres
    have HR := Lib.hid hres
    clear hres
    go_enter Tryz.func102, Tryz.ntmps102
    go_wp2_with fail
    go_ret
    exact ⟨by rw [HR.out]; rfl, rfl⟩
  | false =>
  cases h3 : (s.toList == ([99, 111, 110, 100, 105, 116, 105, 111, 110] : List UInt8)) with
  | true =>
    simp only [h0, h1, h2, h3, Bool.true_or, Bool.or_true, Bool.false_or] at hres
    have HR := Lib.hid hres
    clear hres
    go_enter Tryz.func102, Tryz.ntmps102
    go_wp2_with fail
    go_ret
    exact ⟨by rw [HR.out]; rfl, rfl⟩
  | false =>
  cases h4 : (s.toList == ([99, 111, 118, 101, 114] : List UInt8)) with
  | true =>
    simp only [h0, h1, h2, h3, h4, Bool.true_or, Bool.or_true, Bool.false_or] at hres
    have HR := Lib.hid hres
    clear hres
    go_enter Tryz.func102, Tryz.ntmps102
    go_wp2_with fail
    go_ret
    exact ⟨by rw [HR.out]; rfl, rfl⟩
  | false =>
  cases h5 : (s.toList == ([100, 101, 100, 117, 99, 116, 105, 98, 108, 101] : List UInt8)) with
  | true =>
    simp only [h0, h1, h2, h3, h4, h5, Bool.true_or, Bool.or_true, Bool.false_or] at hres
    have HR := Lib.hid hres
    clear hres
    go_enter Tryz.func102, Tryz.ntmps102
    go_wp2_with fail
    go_ret
    exact ⟨by rw [HR.out]; rfl, rfl⟩
  | false =>
  cases h6 : (s.toList == ([100, 101, 102, 105, 110, 101] : List UInt8)) with
  | true =>
    simp only [h0, h1, h2, h3, h4, h5, h6, Bool.true_or, Bool.or_true, Bool.false_or] at hres
    have HR := Lib.hid hres
    clear hres
    go_enter Tryz.func102, Tryz.ntmps102
    go_wp2_with fail
    go_ret
    exact ⟨by rw [HR.out]; rfl, rfl⟩
  | false =>
  cases h7 : (s.toList == ([101, 110, 100] : List UInt8)) with
  | true =>
    simp only [h0, h1, h2, h3, h4, h5, h6, h7, Bool.true_or, Bool.or_true, Bool.false_or] at hres
    have HR := Lib.hid hres
    clear hres
    go_enter Tryz.func102, Tryz.ntmps102
    go_wp2_with fail
    go_ret
    exact ⟨by rw [HR.out]; rfl, rfl⟩
  | false =>
  cases h8 : (s.toList == ([101, 110, 100, 111, 114, 115, 101] : List UInt8)) with
  | true =>
    simp only [h0, h1, h2, h3, h4, h5, h6, h7, h8, Bool.true_or, Bool.or_true, Bool.false_or] at hres
    have HR := Lib.hid hres
    clear hres
    go_enter Tryz.func102, Tryz.ntmps102
    go_wp2_with fail
    go_ret
    exact ⟨by rw [HR.out]; rfl, rfl⟩
  | false =>
  cases h9 : (s.toList == ([101, 120, 99, 108, 117, 100, 101] : List UInt8)) with
  | true =>
    simp only [h0, h1, h2, h3, h4, h5, h6, h7, h8, h9, Bool.true_or, Bool.or_true, Bool.false_or] at hres
    have HR := Lib.hid hres
    clear hres
    go_enter Tryz.func102, Tryz.ntmps102
    go_wp2_with fail
    go_ret
    exact ⟨by rw [HR.out]; rfl, rfl⟩
  | false =>
  cases h10 : (s.toList == ([102, 97, 108, 115, 101] : List UInt8)) with
  | true =>
    simp only [h0, h1, h2, h3, h4, h5, h6, h7, h8, h9, h10, Bool.true_or, Bool.or_true, Bool.false_or] at hres
    have HR := Lib.hid hres
    clear hres
    go_enter Tryz.func102, Tryz.ntmps102
    go_wp2_with fail
    go_ret
    exact ⟨by rw [HR.out]; rfl, rfl⟩
  | false =>
  cases h11 : (s.toList == ([102, 114, 97, 110, 99, 104, 105, 115, 101] : List UInt8)) with
  | true =>
    simp only [h0, h1, h2, h3, h4, h5, h6, h7, h8, h9, h10, h11, Bool.true_or, Bool.or_true, Bool.false_or] at hres
    have HR := Lib.hid hres
    clear hres
    go_enter Tryz.func102, Tryz.ntmps102
    go_wp2_with fail
    go_ret
    exact ⟨by rw [HR.out]; rfl, rfl⟩
  | false =>
  cases h12 : (s.toList == ([102, 114, 111, 109] : List UInt8)) with
  | true =>
    simp only [h0, h1, h2, h3, h4, h5, h6, h7, h8, h9, h10, h11, h12, Bool.true_or, Bool.or_true, Bool.false_or] at hres
    have HR := Lib.hid hres
    clear hres
    go_enter Tryz.func102, Tryz.ntmps102
    go_wp2_with fail
    go_ret
    exact ⟨by rw [HR.out]; rfl, rfl⟩
  | false =>
  cases h13 : (s.toList == ([105, 110] : List UInt8)) with
  | true =>
    simp only [h0, h1, h2, h3, h4, h5, h6, h7, h8, h9, h10, h11, h12, h13, Bool.true_or, Bool.or_true, Bool.false_or] at hres
    have HR := Lib.hid hres
    clear hres
    go_enter Tryz.func102, Tryz.ntmps102
    go_wp2_with fail
    go_ret
    exact ⟨by rw [HR.out]; rfl, rfl⟩
  | false =>
  cases h14 : (s.toList == ([108, 105, 109, 105, 116] : List UInt8)) with
  | true =>
    simp only [h0, h1, h2, h3, h4, h5, h6, h7, h8, h9, h10, h11, h12, h13, h14, Bool.true_or, Bool.or_true, Bool.false_or] at hres
    have HR := Lib.hid hres
    clear hres
    go_enter Tryz.func102, Tryz.ntmps102
    go_wp2_with fail
    go_ret
    exact ⟨by rw [HR.out]; rfl, rfl⟩
  | false =>
  cases h15 : (s.toList == ([110, 111, 116] : List UInt8)) with
  | true =>
    simp only [h0, h1, h2, h3, h4, h5, h6, h7, h8, h9, h10, h11, h12, h13, h14, h15, Bool.true_or, Bool.or_true, Bool.false_or] at hres
    have HR := Lib.hid hres
    clear hres
    go_enter Tryz.func102, Tryz.ntmps102
    go_wp2_with fail
    go_ret
    exact ⟨by rw [HR.out]; rfl, rfl⟩
  | false =>
  cases h16 : (s.toList == ([111, 114] : List UInt8)) with
  | true =>
    simp only [h0, h1, h2, h3, h4, h5, h6, h7, h8, h9, h10, h11, h12, h13, h14, h15, h16, Bool.true_or, Bool.or_true, Bool.false_or] at hres
    have HR := Lib.hid hres
    clear hres
    go_enter Tryz.func102, Tryz.ntmps102
    go_wp2_with fail
    go_ret
    exact ⟨by rw [HR.out]; rfl, rfl⟩
  | false =>
  cases h17 : (s.toList == ([114, 101, 109, 111, 118, 101] : List UInt8)) with
  | true =>
    simp only [h0, h1, h2, h3, h4, h5, h6, h7, h8, h9, h10, h11, h12, h13, h14, h15, h16, h17, Bool.true_or, Bool.or_true, Bool.false_or] at hres
    have HR := Lib.hid hres
    clear hres
    go_enter Tryz.func102, Tryz.ntmps102
    go_wp2_with fail
    go_ret
    exact ⟨by rw [HR.out]; rfl, rfl⟩
  | false =>
  cases h18 : (s.toList == ([115, 117, 98, 108, 105, 109, 105, 116] : List UInt8)) with
  | true =>
    simp only [h0, h1, h2, h3, h4, h5, h6, h7, h8, h9, h10, h11, h12, h13, h14, h15, h16, h17, h18, Bool.true_or, Bool.or_true, Bool.false_or] at hres
    have HR := Lib.hid hres
    clear hres
    go_enter Tryz.func102, Tryz.ntmps102
    go_wp2_with fail
    go_ret
    exact ⟨by rw [HR.out]; rfl, rfl⟩
  | false =>
  cases h19 : (s.toList == ([116, 111] : List UInt8)) with
  | true =>
    simp only [h0, h1, h2, h3, h4, h5, h6, h7, h8, h9, h10, h11, h12, h13, h14, h15, h16, h17, h18, h19, Bool.true_or, Bool.or_true, Bool.false_or] at hres
    have HR := Lib.hid hres
    clear hres
    go_enter Tryz.func102, Tryz.ntmps102
    go_wp2_with fail
    go_ret
    exact ⟨by rw [HR.out]; rfl, rfl⟩
  | false =>
  cases h20 : (s.toList == ([116, 114, 117, 101] : List UInt8)) with
  | true =>
    simp only [h0, h1, h2, h3, h4, h5, h6, h7, h8, h9, h10, h11, h12, h13, h14, h15, h16, h17, h18, h19, h20, Bool.true_or, Bool.or_true, Bool.false_or] at hres
    have HR := Lib.hid hres
    clear hres
    go_enter Tryz.func102, Tryz.ntmps102
    go_wp2_with fail
    go_ret
    exact ⟨by rw [HR.out]; rfl, rfl⟩
  | false =>
  cases h21 : (s.toList == ([117, 110, 108, 101, 115, 115] : List UInt8)) with
  | true =>
    simp only [h0, h1, h2, h3, h4, h5, h6, h7, h8, h9, h10, h11, h12, h13, h14, h15, h16, h17, h18, h19, h20, h21, Bool.true_or, Bool.or_true, Bool.false_or] at hres
    have HR := Lib.hid hres
    clear hres
    go_enter Tryz.func102, Tryz.ntmps102
    go_wp2_with fail
    go_ret
    exact ⟨by rw [HR.out]; rfl, rfl⟩
  | false =>
  cases h22 : (s.toList == ([119, 104, 101, 110] : List UInt8)) with
  | true =>
    simp only [h0, h1, h2, h3, h4, h5, h6, h7, h8, h9, h10, h11, h12, h13, h14, h15, h16, h17, h18, h19, h20, h21, h22, Bool.true_or, Bool.or_true, Bool.false_or] at hres
    have HR := Lib.hid hres
    clear hres
    go_enter Tryz.func102, Tryz.ntmps102
    go_wp2_with fail
    go_ret
    exact ⟨by rw [HR.out]; rfl, rfl⟩
  | false =>
  simp only [h0, h1, h2, h3, h4, h5, h6, h7, h8, h9, h10, h11, h12, h13, h14, h15, h16, h17, h18, h19, h20, h21, h22, Bool.or_false] at hres
  have HR := Lib.hid hres
  clear hres
  go_enter Tryz.func102, Tryz.ntmps102
  go_wp2_with fail
  go_ret
  exact ⟨by rw [HR.out]; rfl, rfl⟩

set_option maxRecDepth 100000 in
set_option maxHeartbeats 4000000 in
theorem rreserved_any (s : ByteArray) (w : World) : Calls Tryz.prog 111 #[.string s] w fun e w' => e = .returned (.bool (resB s)) ∧ w = w' := by
  have hres : resB s = resB s := rfl
  conv at hres => rhs; unfold resB
  cases h0 : (s.toList == ([97, 110, 100] : List UInt8)) with
  | true =>
    simp only [h0, Bool.true_or, Bool.or_true, Bool.false_or] at hres
    have HR := Lib.hid hres
    clear hres
    go_enter Tryz.func111, Tryz.ntmps111
    go_wp2_with fail
    go_ret
    exact ⟨by rw [HR.out]; rfl, rfl⟩
  | false =>
  cases h1 : (s.toList == ([97, 118, 101, 114, 97, 103, 101] : List UInt8)) with
  | true =>
    simp only [h0, h1, Bool.true_or, Bool.or_true, Bool.false_or] at hres
    have HR := Lib.hid hres
    clear hres
    go_enter Tryz.func111, Tryz.ntmps111
    go_wp2_with fail
    go_ret
    exact ⟨by rw [HR.out]; rfl, rfl⟩
  | false =>
  cases h2 : (s.toList == ([99, 111, 105, 110, 115, 117, 114, 97, 110, 99, 101] : List UInt8)) with
  | true =>
    simp only [h0, h1, h2, Bool.true_or, Bool.or_true, Bool.false_or] at hres
    have HR := Lib.hid hres
    clear hres
    go_enter Tryz.func111, Tryz.ntmps111
    go_wp2_with fail
    go_ret
    exact ⟨by rw [HR.out]; rfl, rfl⟩
  | false =>
  cases h3 : (s.toList == ([99, 111, 110, 100, 105, 116, 105, 111, 110] : List UInt8)) with
  | true =>
    simp only [h0, h1, h2, h3, Bool.true_or, Bool.or_true, Bool.false_or] at hres
    have HR := Lib.hid hres
    clear hres
    go_enter Tryz.func111, Tryz.ntmps111
    go_wp2_with fail
    go_ret
    exact ⟨by rw [HR.out]; rfl, rfl⟩
  | false =>
  cases h4 : (s.toList == ([99, 111, 118, 101, 114] : List UInt8)) with
  | true =>
    simp only [h0, h1, h2, h3, h4, Bool.true_or, Bool.or_true, Bool.false_or] at hres
    have HR := Lib.hid hres
    clear hres
    go_enter Tryz.func111, Tryz.ntmps111
    go_wp2_with fail
    go_ret
    exact ⟨by rw [HR.out]; rfl, rfl⟩
  | false =>
  cases h5 : (s.toList == ([100, 101, 100, 117, 99, 116, 105, 98, 108, 101] : List UInt8)) with
  | true =>
    simp only [h0, h1, h2, h3, h4, h5, Bool.true_or, Bool.or_true, Bool.false_or] at hres
    have HR := Lib.hid hres
    clear hres
    go_enter Tryz.func111, Tryz.ntmps111
    go_wp2_with fail
    go_ret
    exact ⟨by rw [HR.out]; rfl, rfl⟩
  | false =>
  cases h6 : (s.toList == ([100, 101, 102, 105, 110, 101] : List UInt8)) with
  | true =>
    simp only [h0, h1, h2, h3, h4, h5, h6, Bool.true_or, Bool.or_true, Bool.false_or] at hres
    have HR := Lib.hid hres
    clear hres
    go_enter Tryz.func111, Tryz.ntmps111
    go_wp2_with fail
    go_ret
    exact ⟨by rw [HR.out]; rfl, rfl⟩
  | false =>
  cases h7 : (s.toList == ([101, 110, 100] : List UInt8)) with
  | true =>
    simp only [h0, h1, h2, h3, h4, h5, h6, h7, Bool.true_or, Bool.or_true, Bool.false_or] at hres
    have HR := Lib.hid hres
    clear hres
    go_enter Tryz.func111, Tryz.ntmps111
    go_wp2_with fail
    go_ret
    exact ⟨by rw [HR.out]; rfl, rfl⟩
  | false =>
  cases h8 : (s.toList == ([101, 110, 100, 111, 114, 115, 101] : List UInt8)) with
  | true =>
    simp only [h0, h1, h2, h3, h4, h5, h6, h7, h8, Bool.true_or, Bool.or_true, Bool.false_or] at hres
    have HR := Lib.hid hres
    clear hres
    go_enter Tryz.func111, Tryz.ntmps111
    go_wp2_with fail
    go_ret
    exact ⟨by rw [HR.out]; rfl, rfl⟩
  | false =>
  cases h9 : (s.toList == ([101, 120, 99, 108, 117, 100, 101] : List UInt8)) with
  | true =>
    simp only [h0, h1, h2, h3, h4, h5, h6, h7, h8, h9, Bool.true_or, Bool.or_true, Bool.false_or] at hres
    have HR := Lib.hid hres
    clear hres
    go_enter Tryz.func111, Tryz.ntmps111
    go_wp2_with fail
    go_ret
    exact ⟨by rw [HR.out]; rfl, rfl⟩
  | false =>
  cases h10 : (s.toList == ([102, 97, 108, 115, 101] : List UInt8)) with
  | true =>
    simp only [h0, h1, h2, h3, h4, h5, h6, h7, h8, h9, h10, Bool.true_or, Bool.or_true, Bool.false_or] at hres
    have HR := Lib.hid hres
    clear hres
    go_enter Tryz.func111, Tryz.ntmps111
    go_wp2_with fail
    go_ret
    exact ⟨by rw [HR.out]; rfl, rfl⟩
  | false =>
  cases h11 : (s.toList == ([102, 114, 97, 110, 99, 104, 105, 115, 101] : List UInt8)) with
  | true =>
    simp only [h0, h1, h2, h3, h4, h5, h6, h7, h8, h9, h10, h11, Bool.true_or, Bool.or_true, Bool.false_or] at hres
    have HR := Lib.hid hres
    clear hres
    go_enter Tryz.func111, Tryz.ntmps111
    go_wp2_with fail
    go_ret
    exact ⟨by rw [HR.out]; rfl, rfl⟩
  | false =>
  cases h12 : (s.toList == ([102, 114, 111, 109] : List UInt8)) with
  | true =>
    simp only [h0, h1, h2, h3, h4, h5, h6, h7, h8, h9, h10, h11, h12, Bool.true_or, Bool.or_true, Bool.false_or] at hres
    have HR := Lib.hid hres
    clear hres
    go_enter Tryz.func111, Tryz.ntmps111
    go_wp2_with fail
    go_ret
    exact ⟨by rw [HR.out]; rfl, rfl⟩
  | false =>
  cases h13 : (s.toList == ([105, 110] : List UInt8)) with
  | true =>
    simp only [h0, h1, h2, h3, h4, h5, h6, h7, h8, h9, h10, h11, h12, h13, Bool.true_or, Bool.or_true, Bool.false_or] at hres
    have HR := Lib.hid hres
    clear hres
    go_enter Tryz.func111, Tryz.ntmps111
    go_wp2_with fail
    go_ret
    exact ⟨by rw [HR.out]; rfl, rfl⟩
  | false =>
  cases h14 : (s.toList == ([108, 105, 109, 105, 116] : List UInt8)) with
  | true =>
    simp only [h0, h1, h2, h3, h4, h5, h6, h7, h8, h9, h10, h11, h12, h13, h14, Bool.true_or, Bool.or_true, Bool.false_or] at hres
    have HR := Lib.hid hres
    clear hres
    go_enter Tryz.func111, Tryz.ntmps111
    go_wp2_with fail
    go_ret
    exact ⟨by rw [HR.out]; rfl, rfl⟩
  | false =>
  cases h15 : (s.toList == ([110, 111, 116] : List UInt8)) with
  | true =>
    simp only [h0, h1, h2, h3, h4, h5, h6, h7, h8, h9, h10, h11, h12, h13, h14, h15, Bool.true_or, Bool.or_true, Bool.false_or] at hres
    have HR := Lib.hid hres
    clear hres
    go_enter Tryz.func111, Tryz.ntmps111
    go_wp2_with fail
    go_ret
    exact ⟨by rw [HR.out]; rfl, rfl⟩
  | false =>
  cases h16 : (s.toList == ([111, 114] : List UInt8)) with
  | true =>
    simp only [h0, h1, h2, h3, h4, h5, h6, h7, h8, h9, h10, h11, h12, h13, h14, h15, h16, Bool.true_or, Bool.or_true, Bool.false_or] at hres
    have HR := Lib.hid hres
    clear hres
    go_enter Tryz.func111, Tryz.ntmps111
    go_wp2_with fail
    go_ret
    exact ⟨by rw [HR.out]; rfl, rfl⟩
  | false =>
  cases h17 : (s.toList == ([114, 101, 109, 111, 118, 101] : List UInt8)) with
  | true =>
    simp only [h0, h1, h2, h3, h4, h5, h6, h7, h8, h9, h10, h11, h12, h13, h14, h15, h16, h17, Bool.true_or, Bool.or_true, Bool.false_or] at hres
    have HR := Lib.hid hres
    clear hres
    go_enter Tryz.func111, Tryz.ntmps111
    go_wp2_with fail
    go_ret
    exact ⟨by rw [HR.out]; rfl, rfl⟩
  | false =>
  cases h18 : (s.toList == ([115, 117, 98, 108, 105, 109, 105, 116] : List UInt8)) with
  | true =>
    simp only [h0, h1, h2, h3, h4, h5, h6, h7, h8, h9, h10, h11, h12, h13, h14, h15, h16, h17, h18, Bool.true_or, Bool.or_true, Bool.false_or] at hres
    have HR := Lib.hid hres
    clear hres
    go_enter Tryz.func111, Tryz.ntmps111
    go_wp2_with fail
    go_ret
    exact ⟨by rw [HR.out]; rfl, rfl⟩
  | false =>
  cases h19 : (s.toList == ([116, 111] : List UInt8)) with
  | true =>
    simp only [h0, h1, h2, h3, h4, h5, h6, h7, h8, h9, h10, h11, h12, h13, h14, h15, h16, h17, h18, h19, Bool.true_or, Bool.or_true, Bool.false_or] at hres
    have HR := Lib.hid hres
    clear hres
    go_enter Tryz.func111, Tryz.ntmps111
    go_wp2_with fail
    go_ret
    exact ⟨by rw [HR.out]; rfl, rfl⟩
  | false =>
  cases h20 : (s.toList == ([116, 114, 117, 101] : List UInt8)) with
  | true =>
    simp only [h0, h1, h2, h3, h4, h5, h6, h7, h8, h9, h10, h11, h12, h13, h14, h15, h16, h17, h18, h19, h20, Bool.true_or, Bool.or_true, Bool.false_or] at hres
    have HR := Lib.hid hres
    clear hres
    go_enter Tryz.func111, Tryz.ntmps111
    go_wp2_with fail
    go_ret
    exact ⟨by rw [HR.out]; rfl, rfl⟩
  | false =>
  cases h21 : (s.toList == ([117, 110, 108, 101, 115, 115] : List UInt8)) with
  | true =>
    simp only [h0, h1, h2, h3, h4, h5, h6, h7, h8, h9, h10, h11, h12, h13, h14, h15, h16, h17, h18, h19, h20, h21, Bool.true_or, Bool.or_true, Bool.false_or] at hres
    have HR := Lib.hid hres
    clear hres
    go_enter Tryz.func111, Tryz.ntmps111
    go_wp2_with fail
    go_ret
    exact ⟨by rw [HR.out]; rfl, rfl⟩
  | false =>
  cases h22 : (s.toList == ([119, 104, 101, 110] : List UInt8)) with
  | true =>
    simp only [h0, h1, h2, h3, h4, h5, h6, h7, h8, h9, h10, h11, h12, h13, h14, h15, h16, h17, h18, h19, h20, h21, h22, Bool.true_or, Bool.or_true, Bool.false_or] at hres
    have HR := Lib.hid hres
    clear hres
    go_enter Tryz.func111, Tryz.ntmps111
    go_wp2_with fail
    go_ret
    exact ⟨by rw [HR.out]; rfl, rfl⟩
  | false =>
  simp only [h0, h1, h2, h3, h4, h5, h6, h7, h8, h9, h10, h11, h12, h13, h14, h15, h16, h17, h18, h19, h20, h21, h22, Bool.or_false] at hres
  have HR := Lib.hid hres
  clear hres
  go_enter Tryz.func111, Tryz.ntmps111
  go_wp2_with fail
  go_ret
  exact ⟨by rw [HR.out]; rfl, rfl⟩

/-- a name -/
def nameB (s : ByteArray) : Bool := wordB s && !resB s

theorem name_any (s : ByteArray) (w : World) : Calls Tryz.prog 68 #[.string s] w fun e w' => e = .returned (.bool (nameB s)) ∧ w = w' := by
  cases hx : wordB s <;> cases hy : resB s
  all_goals
    have hv : nameB s = (wordB s && !resB s) := rfl
    rw [hx, hy] at hv
    have HV := Lib.hid hv
    clear hv
    go_enter Tryz.func68, Tryz.ntmps68
    go_wp2_with (first | (go_at_call 101; refine (word_any _ _).mono ?_; rintro e w' ⟨rfl, rfl⟩) | (go_at_call 102; refine (reserved_any _ _).mono ?_; rintro e w' ⟨rfl, rfl⟩))
    go_ret
    exact ⟨by rw [HV.out]; rfl, rfl⟩

theorem rname_any (s : ByteArray) (w : World) : Calls Tryz.prog 81 #[.string s] w fun e w' => e = .returned (.bool (nameB s)) ∧ w = w' := by
  cases hx : wordB s <;> cases hy : resB s
  all_goals
    have hv : nameB s = (wordB s && !resB s) := rfl
    rw [hx, hy] at hv
    have HV := Lib.hid hv
    clear hv
    go_enter Tryz.func81, Tryz.ntmps81
    go_wp2_with (first | (go_at_call 110; refine (rword_any _ _).mono ?_; rintro e w' ⟨rfl, rfl⟩) | (go_at_call 111; refine (rreserved_any _ _).mono ?_; rintro e w' ⟨rfl, rfl⟩))
    go_ret
    exact ⟨by rw [HV.out]; rfl, rfl⟩
end Go.Proofs.YtlbkhhbbkedhkaaGreatDoor
namespace Go.Proofs.YtlbkhhbbkedhkaaGreatDoor
open Go.RowKit

/-- the k-th number of a list -/
def nth (zs : List Int) (k : Nat) : Int := zs.getD k 0

theorem nth_eq (zs : List Int) (k : Nat) (h : k < zs.length) : nth zs k = zs[k] := by
  simp [nth, h]

theorem take_nth (zs : List Int) (k : Nat) (h : k < zs.length) : zs.take (k + 1) = zs.take k ++ [nth zs k] := by
  rw [List.take_succ_eq_append_getElem h, nth_eq zs k h]

theorem nth_mem (zs : List Int) (k : Nat) (h : k < zs.length) : nth zs k ∈ zs := by
  rw [nth_eq zs k h]; exact List.getElem_mem h

/-- the first n cells of a slice that lies below block B -/
def Cells (w : World) (B : Nat) (A : Option Addr) (n : Nat) (f : Nat → Value) : Prop :=
  0 < n → ∃ ad, A = some ad ∧ ad.block < B ∧ ∀ j, j < n → w.cell? (ad.add j) = some (f j)

section
variable {w w' : World} {B B' n : Nat} {A : Option Addr} {f : Nat → Value}

theorem add_block (a : Addr) (j : Nat) : (a.add j).block = a.block := by
  unfold Addr.add; split <;> rfl

theorem Cells.get {j : Nat} (h : Cells w B A n f) (hj : j < n) : ∃ ad, A = some ad ∧ ad.block < B ∧ w.cell? (ad.add j) = some (f j) := by
  obtain ⟨ad, e, hb, hc⟩ := h (by omega)
  exact ⟨ad, e, hb, hc j hj⟩

theorem Cells.zero : Cells w B A 0 f := fun h => absurd h (by omega)

theorem Cells.keep (h : Cells w B A n f) (hk : ∀ p : Addr, p.block < B → w'.cell? p = w.cell? p) : Cells w' B A n f := fun hn => by
  obtain ⟨ad, e, hb, hc⟩ := h hn
  exact ⟨ad, e, hb, fun j hj => (hk _ (by rw [add_block]; exact hb)).trans (hc j hj)⟩

theorem Cells.mono (h : Cells w B A n f) (hB : B ≤ B') : Cells w B' A n f := fun hn => by
  obtain ⟨ad, e, hb, hc⟩ := h hn
  exact ⟨ad, e, by omega, hc⟩

theorem Cells.below (h : Cells w B A n f) (hb : Below B w w') : Cells w' B A n f := h.keep fun _ hp => hb.cell hp
theorem Cells.drewN (h : Cells w B A n f) (k : Nat) : Cells (w.drewN k) B A n f := h
theorem Cells.alloc (h : Cells w B A n f) (hB : B ≤ w.heap.size) (o : Obj) : Cells (w.alloc o) B A n f :=
  h.keep fun p hp => World.cell?_alloc_lt w o p (by omega)
theorem Cells.setCell (h : Cells w B A n f) {p : Addr} (hB : B ≤ p.block) (u : Value) : Cells (w.setCell p u) B A n f :=
  h.keep fun q hq => World.cell?_setCell_other w p q u (fun e => by subst e; omega)
theorem Cells.congr (h : Cells w B A n f) {g : Nat → Value} (hg : ∀ j, j < n → f j = g j) : Cells w B A n g := fun hn => by
  obtain ⟨ad, e, hb, hc⟩ := h hn
  exact ⟨ad, e, hb, fun j hj => by rw [← hg j hj]; exact hc j hj⟩
end

/-- a slice of ints that reads as a list -/
def Ints (w : World) (B : Nat) (A : Option Addr) (zs : List Int) : Prop := Cells w B A zs.length fun j => .int .i64 (nth zs j)

/-- a row that the call owns, as cells -/
theorem Cells.of_own {w : World} {base : Nat} {e : TypeId} {size n : Nat} {A : Option Addr} {c : Nat} {xs : List Value} (h : w.ownsRow base e size (.slice A n c) n xs) (g : Nat → Value)
    (hg : ∀ j (hj : j < xs.length), xs[j] = g j) : Cells w w.heap.size A (n * size) g := fun hn => by
  have hn0 : 0 < n := Nat.pos_of_ne_zero fun e => by subst e; simp at hn
  obtain ⟨b, cap, hv, _, hlt⟩ := h.form hn0
  have hA : A = some ⟨b, 0, none⟩ := by injection hv
  subst hA
  refine ⟨_, rfl, hlt, fun j hj => ?_⟩
  have hl : j < xs.length := by rw [h.1]; exact hj
  exact h.cells (g := b) rfl j _ (by rw [List.getElem?_eq_getElem hl, hg j hl])

theorem cell_lt {w : World} {a : Addr} {v : Value} (h : w.cell? a = some v) : a.block < w.heap.size := by
  rcases Nat.lt_or_ge a.block w.heap.size with hlt | hge
  · exact hlt
  · simp [World.cell?, Array.getElem?_eq_none hge] at h

/-- an empty slice of the call's own -/
theorem own_empty (w : World) (e : TypeId) (size : Nat) : (w.alloc (.cells #[] e)).ownsRow w.heap.size e size (.slice (some ⟨w.heap.size, 0, none⟩) 0 0) 0 [] :=
  ⟨by simp, .inr ⟨w.heap.size, 0, #[], rfl, Nat.le_refl _, heap_alloc_new w _, Nat.le_refl _, Nat.zero_le _, by simp, by simp⟩⟩

/-- a row of the call's own that has a block -/
theorem own_form {w : World} {base : Nat} {e : TypeId} {size n g0 : Nat} {v : Value} {xs : List Value} (h : w.ownsRow base e size v n xs) (hat : v.ownBlock = some g0) :
    ∃ cap, v = .slice (some ⟨g0, 0, none⟩) n cap ∧ base ≤ g0 := by
  rcases h.2 with ⟨rfl, _⟩ | ⟨g, cap, cur, rfl, hb, _⟩
  · simp [Value.ownBlock] at hat
  · simp only [Value.ownBlock, Option.some.injEq] at hat
    subst hat
    exact ⟨cap, rfl, hb⟩

theorem range_map_nth (ys : List Int) (n : Nat) (h : ys.length = n) : (List.range n).map (fun j => Value.int .i64 (nth ys j)) = ys.map (Value.int .i64) := by
  subst h
  apply List.ext_getElem
  · simp
  · intro i h1 h2
    simp only [List.length_map, List.length_range] at h1
    simp [nth_eq ys i h1]

theorem below_drewN {B : Nat} {a w : World} (h : Below B a w) (n : Nat) : Below B a (w.drewN n) := ⟨h.os, h.tape, h.output, h.size, h.block⟩

section
variable {P : Program} (w : World)

/-- append of the first m elements of a slice that came in, to a row of the call's own -/
theorem run_append_cells (base : Nat) (t ty e : TypeId) (i : TypeInfo) (z : Value) (size bytes : Nat) (ht : P.underlying t = some (.slice e)) (hi : P.info? e = some i) (hz : i.zero = some z)
    (hsize : i.size = size) (hby : i.bytes = bytes) (hzs : z.cells.size = size) (hsz : 0 < size)
    (v : Value) (n : Nat) (xs : List Value) (hown : w.ownsRow base e size v n xs)
    (B : Nat) (A : Option Addr) (m c : Nat) (f : Nat → Value) (hc : Cells w B A (m * size) f) (hnil : A = none → m = 0 ∧ c = 0) (h1 : ∀ j, j < m * size → (f j).oneCell' = true)
    (h63 : n + m ≤ maxLen) (hbytes : (n + m) * bytes ≤ 140737488355328) (hbase : base ≤ w.heap.size) :
    ∃ v' w', (Builtin.append_ #[t, t] ty #[v, .slice A m c]).run P w = .ok v' w' ∧ w'.ownsRow base e size v' (n + m) (xs ++ (List.range (m * size)).map f) ∧ w.grownBy w' v.ownBlock ∧
      (v'.ownBlock = v.ownBlock ∨ v'.ownBlock = some w.heap.size) := by
  cases A with
  | none =>
    obtain ⟨rfl, rfl⟩ := hnil rfl
    exact ⟨v, w, run_append_owned_none (P := P) (w := w) base t ty e i size ht hi v n xs hown, by simpa using hown, World.grownBy.refl w _, .inl rfl⟩
  | some ad =>
    have hcell : ∀ j u, ((List.range (m * size)).map f)[j]? = some u → w.cell? (ad.add j) = some u := by
      intro j u hu
      rw [List.getElem?_map] at hu
      by_cases hj : j < m * size
      · obtain ⟨ad', e', _, hcc⟩ := hc.get hj
        injection e' with e'
        subst e'
        rw [List.getElem?_range hj] at hu
        simp only [Option.map_some, Option.some.injEq] at hu
        rw [hcc, hu]
      · rw [List.getElem?_eq_none (by simp; omega)] at hu
        simp at hu
    obtain ⟨v', w', hrun, h2, h3, _, h5⟩ := run_append_own_at (P := P) w base t ty e i z size bytes ht hi hz hsize hby hzs hsz v n xs hown ad m c ((List.range (m * size)).map f) (by simp) hcell
      (fun u hu => by obtain ⟨j, hj, rfl⟩ := List.mem_map.1 hu; exact h1 j (List.mem_range.1 hj)) h63 hbytes hbase
    exact ⟨v', w', hrun, h2, h3, h5⟩

theorem wpList_append_cells {ops : Array Oper} {rest : List Oper} {o : Oper} {a : Act} {Q : Exit → Act → World → Prop} (hgd : o.guard = none) (s x : Operand) (t : TypeId)
    (ho : o.op = .call { callee := .builtin .append, args := #[s, x], argTypes := #[t, t] })
    (base : Nat) (e : TypeId) (i : TypeInfo) (z : Value) (size bytes : Nat) (ht : P.underlying t = some (.slice e)) (hi : P.info? e = some i) (hz : i.zero = some z)
    (hsize : i.size = size) (hby : i.bytes = bytes) (hzs : z.cells.size = size) (hsz : 0 < size)
    (v : Value) (n : Nat) (xs : List Value) (hs : a.eval s = v) (hown : w.ownsRow base e size v n xs)
    (B : Nat) (A : Option Addr) (m c : Nat) (f : Nat → Value) (hx : a.eval x = .slice A m c) (hc : Cells w B A (m * size) f) (hnil : A = none → m = 0 ∧ c = 0) (h1 : ∀ j, j < m * size → (f j).oneCell' = true)
    (h63 : n + m ≤ maxLen) (hbytes : (n + m) * bytes ≤ 140737488355328) (hbase : base ≤ w.heap.size)
    (h : ∀ v' w', w'.ownsRow base e size v' (n + m) (xs ++ (List.range (m * size)).map f) → w.grownBy w' v.ownBlock → (v'.ownBlock = v.ownBlock ∨ v'.ownBlock = some w.heap.size) → wpList P ops Q rest (a.put o.dst v') w') :
    wpList P ops Q (o :: rest) a w := by
  obtain ⟨v', w', hrun, h2, h3, h4⟩ := run_append_cells (P := P) w base t o.type e i z size bytes ht hi hz hsize hby hzs hsz v n xs hown B A m c f hc hnil h1 h63 hbytes hbase
  refine wpList_plain hgd fun K hK => ?_
  unfold Oper.wp execOp
  simp only [ho, resolve, invoke, builtin, Sem.run_bind, Sem.run_pure, Result.andThen_ok, List.map_toArray, List.map_cons, List.map_nil, hs, hx, hrun]
  exact hK _ _ (h v' w' h2 h3 h4)
end

/-- contracts of quiet callees, in the form that a quiet region asks for -/
theorem quiet_left {P : Program} {f : FuncId} {args : Array Value} {w : World} {n : Nat} {v : Value}
    (h : Calls P f args (w.drewN n) fun e w' => e = .returned v ∧ w.drewN n = w') : Calls P f args (w.drewN n) fun e w'' => e = .returned v ∧ ∃ m, w'' = w.drewN m :=
  h.mono fun _ _ ⟨he, hm⟩ => ⟨he, n, hm.symm⟩
theorem quiet_more {P : Program} {f : FuncId} {args : Array Value} {w : World} {a n : Nat} {v : Value}
    (h : Calls P f args (w.drewN (a + n)) fun e w' => e = .returned v ∧ ∃ m, w' = (w.drewN (a + n)).drewN m) :
    Calls P f args (w.drewN (a + n)) fun e w'' => e = .returned v ∧ ∃ m, w'' = w.drewN (a + m) :=
  h.mono fun _ _ ⟨he, m, hm⟩ => ⟨he, n + m, by rw [hm, World.drewN_drewN, Nat.add_assoc]⟩
end Go.Proofs.YtlbkhhbbkedhkaaGreatDoor
namespace Go.Proofs.YtlbkhhbbkedhkaaGreatDoor
open Go.RowKit

/-- block b is just the cells cs of type t, none of them frozen -/
def Has (w : World) (b : Nat) (cs : Array Value) (t : TypeId) : Prop := w.heap[b]? = some (.cells cs t (0, 0))

section
variable {w w' : World} {b : Nat} {cs : Array Value} {t : TypeId}
theorem Has.lt (h : Has w b cs t) : b < w.heap.size := by
  rcases Nat.lt_or_ge b w.heap.size with hlt | hge
  · exact hlt
  · unfold Has at h; rw [Array.getElem?_eq_none hge] at h; cases h
theorem Has.cell (h : Has w b cs t) (i : Nat) : w.cell? ⟨b, i, none⟩ = cs[i]? := cell_of_row w b i cs t (0, 0) h
theorem Has.free (h : Has w b cs t) (i : Nat) : w.frozen? ⟨b, i, none⟩ = false := by
  unfold Has at h
  simp [World.frozen?, h]
theorem Has.new (w : World) (cs : Array Value) (t : TypeId) : Has (w.alloc (.cells cs t)) w.heap.size cs t := heap_alloc_new w _
theorem Has.new' (w : World) (b : Nat) (cs : Array Value) (t : TypeId) (hb : b = w.heap.size) : Has (w.alloc (.cells cs t)) b cs t := by subst hb; exact heap_alloc_new w _
theorem Has.drewN (h : Has w b cs t) (n : Nat) : Has (w.drewN n) b cs t := h
theorem Has.drew (h : Has w b cs t) : Has w.drew b cs t := h
theorem Has.alloc (h : Has w b cs t) (o : Obj) : Has (w.alloc o) b cs t := (Below.heap_alloc w o b h.lt).trans h
theorem Has.put (h : Has w b cs t) (i : Nat) (u : Value) : Has (w.setCell ⟨b, i, none⟩ u) b (cs.setIfInBounds i u) t := by
  unfold Has at h ⊢
  simp [World.setCell, Array.getElem?_modify, h]
theorem Has.far (h : Has w b cs t) {p : Addr} (hp : b ≠ p.block) (u : Value) : Has (w.setCell p u) b cs t := (Below.heap_setCell w p u b hp).trans h
theorem Has.below {B : Nat} (h : Has w b cs t) (hb : Below B w w') (hg : b < B) : Has w' b cs t := (hb.block b hg).trans h
end
end Go.Proofs.YtlbkhhbbkedhkaaGreatDoor
