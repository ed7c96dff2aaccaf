/- Names: lexer.Name and the reference's Name are one function of the text (printed by wip/gen/won.py). -/
import Derived.Test.YtlbkhhbbkedhkaaGreatDoorProg
import Derived.WalkKit
import Derived.Lib.Hide
import Derived.KernelRfl
import Derived.Below
namespace Go.Proofs.YtlbkhhbbkedhkaaGreatDoor
open Go.RowKit
set_option linter.unusedVariables false
set_option linter.unusedSimpArgs false

/-- byte i of a text -/
def byt (s : ByteArray) (i : Nat) : Int := if h : i < s.size then (s[i].toNat : Int) else 0
def letB (b : Int) : Bool := decide (97 ≤ b ∧ b ≤ 122)
def digB (b : Int) : Bool := decide (48 ≤ b ∧ b ≤ 57)
def inB (b : Int) : Bool := letB b || digB b || b == 45

theorem idx_str (s : ByteArray) (i : Int) (h0 : 0 ≤ i) (h1 : i < s.size) (W : World) : (Instr.index 9 (.string s) (.int .i64 i)).run Tryz.prog W = .ok (.int .u8 (byt s i.toNat)) W := by
  rw [run_index_string W 9 s .i64 i Tryz.underlying9, dif_pos ⟨h0, h1⟩]
  unfold byt
  rw [dif_pos (show i.toNat < s.size by omega)]

theorem letter_any (b : Int) (w : World) : Calls Tryz.prog 118 #[.int .u8 b] w fun e w' => e = .returned (.bool (letB b)) ∧ w = w' := by
  by_cases h0 : 97 ≤ b
  · by_cases h1 : b ≤ 122
    · have h0' : (97 : Int) ≤ b := by omega
      have h1' : (b : Int) ≤ 122 := by omega
      go_enter Tryz.func118, Tryz.ntmps118
      go_wp2
      go_ret
      exact ⟨by rw [show letB b = true from decide_eq_true (by omega)]; try simp [h0', h1'], rfl⟩
    · have h0' : (97 : Int) ≤ b := by omega
      have h1' : (122 : Int) < b := by omega
      go_enter Tryz.func118, Tryz.ntmps118
      go_wp2
      go_ret
      exact ⟨by rw [show letB b = false from decide_eq_false (by omega)]; simp [h1'], rfl⟩
  · have h0' : (b : Int) < 97 := by omega
    go_enter Tryz.func118, Tryz.ntmps118
    go_wp2
    go_ret
    exact ⟨by rw [show letB b = false from decide_eq_false (by omega)]; try simp [h0'], rfl⟩

theorem digit_any (b : Int) (w : World) : Calls Tryz.prog 127 #[.int .u8 b] w fun e w' => e = .returned (.bool (digB b)) ∧ w = w' := by
  by_cases h0 : 48 ≤ b
  · by_cases h1 : b ≤ 57
    · have h0' : (48 : Int) ≤ b := by omega
      have h1' : (b : Int) ≤ 57 := by omega
      go_enter Tryz.func127, Tryz.ntmps127
      go_wp2
      go_ret
      exact ⟨by rw [show digB b = true from decide_eq_true (by omega)]; try simp [h0', h1'], rfl⟩
    · have h0' : (48 : Int) ≤ b := by omega
      have h1' : (57 : Int) < b := by omega
      go_enter Tryz.func127, Tryz.ntmps127
      go_wp2
      go_ret
      exact ⟨by rw [show digB b = false from decide_eq_false (by omega)]; simp [h1'], rfl⟩
  · have h0' : (b : Int) < 48 := by omega
    go_enter Tryz.func127, Tryz.ntmps127
    go_wp2
    go_ret
    exact ⟨by rw [show digB b = false from decide_eq_false (by omega)]; try simp [h0'], rfl⟩

theorem rletter_any (b : Int) (w : World) : Calls Tryz.prog 122 #[.int .u8 b] w fun e w' => e = .returned (.bool (letB b)) ∧ w = w' := by
  by_cases h0 : 97 ≤ b
  · by_cases h1 : b ≤ 122
    · have h0' : (97 : Int) ≤ b := by omega
      have h1' : (b : Int) ≤ 122 := by omega
      go_enter Tryz.func122, Tryz.ntmps122
      go_wp2
      go_ret
      exact ⟨by rw [show letB b = true from decide_eq_true (by omega)]; try simp [h0', h1'], rfl⟩
    · have h0' : (97 : Int) ≤ b := by omega
      have h1' : (122 : Int) < b := by omega
      go_enter Tryz.func122, Tryz.ntmps122
      go_wp2
      go_ret
      exact ⟨by rw [show letB b = false from decide_eq_false (by omega)]; simp [h1'], rfl⟩
  · have h0' : (b : Int) < 97 := by omega
    go_enter Tryz.func122, Tryz.ntmps122
    go_wp2
    go_ret
    exact ⟨by rw [show letB b = false from decide_eq_false (by omega)]; try simp [h0'], rfl⟩

theorem rdigit_any (b : Int) (w : World) : Calls Tryz.prog 123 #[.int .u8 b] w fun e w' => e = .returned (.bool (digB b)) ∧ w = w' := by
  by_cases h0 : 48 ≤ b
  · by_cases h1 : b ≤ 57
    · have h0' : (48 : Int) ≤ b := by omega
      have h1' : (b : Int) ≤ 57 := by omega
      go_enter Tryz.func123, Tryz.ntmps123
      go_wp2
      go_ret
      exact ⟨by rw [show digB b = true from decide_eq_true (by omega)]; try simp [h0', h1'], rfl⟩
    · have h0' : (48 : Int) ≤ b := by omega
      have h1' : (57 : Int) < b := by omega
      go_enter Tryz.func123, Tryz.ntmps123
      go_wp2
      go_ret
      exact ⟨by rw [show digB b = false from decide_eq_false (by omega)]; simp [h1'], rfl⟩
  · have h0' : (b : Int) < 48 := by omega
    go_enter Tryz.func123, Tryz.ntmps123
    go_wp2
    go_ret
    exact ⟨by rw [show digB b = false from decide_eq_false (by omega)]; try simp [h0'], rfl⟩

set_option maxRecDepth 100000 in
theorem inword_any (b : Int) (w : World) : Calls Tryz.prog 120 #[.int .u8 b] w fun e w' => e = .returned (.bool (inB b)) ∧ w = w' := by
  cases hx : letB b <;> cases hy : digB b <;> cases hz : (b == 45)
  all_goals
    have hv : inB b = (letB b || digB b || b == 45) := rfl
    rw [hx, hy, hz] at hv
    have HV := Lib.hid hv
    clear hv
    go_enter Tryz.func120, Tryz.ntmps120
    go_wp2_with (first | (go_at_call 118; refine (letter_any _ _).mono ?_; rintro e w' ⟨rfl, rfl⟩) | (go_at_call 127; refine (digit_any _ _).mono ?_; rintro e w' ⟨rfl, rfl⟩))
    go_ret
    exact ⟨by rw [HV.out]; try rfl, rfl⟩

/-- a word -/
def wordB (s : ByteArray) : Bool := decide (0 < s.size ∧ s.size ≤ 16 ∧ letB (byt s 0) = true ∧ byt s (s.size - 1) ≠ 45 ∧ ∀ i, i < s.size → inB (byt s i) = true)

/-- what span returns: the first byte that stands in no word -/
def SpanPost (s : ByteArray) (w : World) (e : Ending) (w' : World) : Prop := ∃ r : Nat, e = .returned (.int .i64 r) ∧ r ≤ s.size ∧ (∀ i, i < r → inB (byt s i) = true) ∧ (r < s.size → inB (byt s r) = false) ∧ w = w'
theorem span_any (s : ByteArray) (w : World) (hs : s.size ≤ 16) : Calls Tryz.prog 119 #[.string s, .int .i64 0, .func (.func 120) #[] #[]] w (SpanPost s w) := by
  have hs' : (s.size : Int) ≤ 16 := by omega
  go_enter Tryz.func119, Tryz.ntmps119
  go_wp2_with fail
  go_loopw [1] (fun i wr => wr = w ∧ ∃ k : Nat, k ≤ s.size ∧ i = .int .i64 k ∧ Hid (∀ i, i < k → inB (byt s i) = true)) (fun i _ => s.size - (intOf i).toNat)
  case atStart => exact ⟨rfl, 0, Nat.zero_le _, rfl, Lib.hid fun i hi => by omega⟩
  case round =>
    obtain ⟨rfl, k, hk, rfl, HK⟩ := hrel
    by_cases hlt : k < s.size
    · have hk0 : (0 : Int) ≤ k := by omega
      have hk1 : (k : Int) < s.size := by omega
      have hix := idx_str s k hk0 hk1
      rw [Int.toNat_natCast] at hix
      obtain ⟨b, hb⟩ : ∃ b, byt s k = b := ⟨_, rfl⟩
      rw [hb] at hix
      have HB := Lib.hid hb
      have CI := Lib.hid (inword_any b)
      obtain ⟨x, hx⟩ : ∃ x, inB b = x := ⟨_, rfl⟩
      rw [hx] at CI
      have HX := Lib.hid hx
      clear hb hx
      cases x with
      | true =>
        go_wp2_with (first | (go_at_call 120; refine (CI.out _).mono ?_; rintro e w' ⟨rfl, rfl⟩))
        go_roundw
        case rel => exact ⟨by trivial, k + 1, by omega, by go_num, Lib.hid fun i hi => by
          by_cases e : i = k
          · rw [e, HB.out, HX.out]
          · exact HK.out i (by omega)⟩
        case measure => simp [intOf]; omega
      | false =>
        go_wp2_with (first | (go_at_call 120; refine (CI.out _).mono ?_; rintro e w' ⟨rfl, rfl⟩))
        go_ret
        exact ⟨k, rfl, hk, HK.out, fun _ => by rw [HB.out, HX.out], rfl⟩
    · have hd : decide ((k : Int) < s.size) = false := by rw [decide_eq_false_iff_not]; omega
      go_wp2_with fail
      go_ret
      exact ⟨k, rfl, hk, HK.out, fun h => absurd h hlt, rfl⟩

set_option maxRecDepth 100000 in
set_option maxHeartbeats 1000000 in
theorem word_any (s : ByteArray) (w : World) : Calls Tryz.prog 101 #[.string s] w fun e w' => e = .returned (.bool (wordB s)) ∧ w = w' := by
  by_cases h0 : s.size = 0
  · have h0' : ((s.size : Int) == 0) = true := by rw [h0]; rfl
    have h1' : (s.size : Int) < 1 := by omega
    have HW : Hid (wordB s = false) := Lib.hid (decide_eq_false (by omega))
    go_enter Tryz.func101, Tryz.ntmps101
    go_wp2_with fail
    go_ret
    exact ⟨by rw [HW.out]; rfl, rfl⟩
  have h0' : ((s.size : Int) == 0) = false := by rw [beq_eq_false_iff_ne]; omega
  have h1' : ¬ (s.size : Int) < 1 := by omega
  by_cases h2 : 16 < s.size
  · have h2' : (16 : Int) < s.size := by omega
    have HW : Hid (wordB s = false) := Lib.hid (decide_eq_false (by omega))
    go_enter Tryz.func101, Tryz.ntmps101
    go_wp2_with fail
    go_ret
    exact ⟨by rw [HW.out]; rfl, rfl⟩
  have h2' : (s.size : Int) ≤ 16 := by omega
  have hi0 : ∀ W, (Instr.index 9 (.string s) (.int .i64 0)).run Tryz.prog W = .ok (.int .u8 (byt s 0)) W := fun W => idx_str s 0 (by omega) (by omega) W
  have hwr : IntKind.i64.wrap ((s.size : Int) - 1) = s.size - 1 := by rw [IntKind.wrap_i64]; omega
  have hi1 : ∀ W, (Instr.index 9 (.string s) (.int .i64 ((s.size : Int) - 1))).run Tryz.prog W = .ok (.int .u8 (byt s (s.size - 1))) W := fun W => by
    have := idx_str s ((s.size : Int) - 1) (by omega) (by omega) W
    rwa [show ((s.size : Int) - 1).toNat = s.size - 1 by omega] at this
  obtain ⟨a, ha⟩ : ∃ a, byt s 0 = a := ⟨_, rfl⟩
  obtain ⟨z, hz⟩ : ∃ a, byt s (s.size - 1) = a := ⟨_, rfl⟩
  rw [ha] at hi0
  rw [hz] at hi1
  cases hl : letB a with
  | false =>
    have HW : Hid (wordB s = false) := Lib.hid (decide_eq_false (by rw [ha, hl]; simp))
    clear ha hz
    go_enter Tryz.func101, Tryz.ntmps101
    go_wp2_with (first | (go_at_call 118; refine (letter_any _ _).mono ?_; rintro e w' ⟨rfl, rfl⟩))
    go_ret
    exact ⟨by rw [HW.out]; rfl, rfl⟩
  | true =>
    cases hy : (z == 45) with
    | true =>
      have HW : Hid (wordB s = false) := Lib.hid (decide_eq_false (by rw [hz]; have := eq_of_beq hy; omega))
      clear ha hz
      go_enter Tryz.func101, Tryz.ntmps101
      go_wp2_with (first | (go_at_call 118; refine (letter_any _ _).mono ?_; rintro e w' ⟨rfl, rfl⟩))
      go_ret
      exact ⟨by rw [HW.out]; rfl, rfl⟩
    | false =>
      have HZ : Hid (0 < s.size ∧ s.size ≤ 16 ∧ letB (byt s 0) = true ∧ byt s (s.size - 1) ≠ 45) := Lib.hid ⟨by omega, by omega, by rw [ha, hl], by rw [hz]; exact fun c => by rw [c] at hy; simp at hy⟩
      clear ha hz
      go_enter Tryz.func101, Tryz.ntmps101
      go_wp2_with (first | (go_at_call 118; refine (letter_any _ _).mono ?_; rintro e w' ⟨rfl, rfl⟩) | (go_at_call 119; refine (span_any s _ (by omega)).mono ?_; rintro e w' ⟨r, rfl, hr, hr1, hr2, rfl⟩))
      by_cases hrs : r = s.size
      · have HW : Hid (wordB s = true) := Lib.hid (decide_eq_true ⟨HZ.out.1, HZ.out.2.1, HZ.out.2.2.1, HZ.out.2.2.2, fun i hi => hr1 i (by omega)⟩)
        go_ret
        exact ⟨by rw [HW.out, hrs]; show Ending.returned (.bool ((s.size : Int) == (s.size : Int))) = _; simp, rfl⟩
      · have HW : Hid (wordB s = false) := Lib.hid (decide_eq_false fun c => by have := c.2.2.2.2 r (by omega); rw [hr2 (by omega)] at this; cases this)
        go_ret
        exact ⟨by rw [HW.out]; show Ending.returned (.bool ((r : Int) == (s.size : Int))) = _; rw [show ((r : Int) == (s.size : Int)) = false by rw [beq_eq_false_iff_ne]; omega], rfl⟩

set_option maxRecDepth 100000 in
set_option maxHeartbeats 1000000 in
theorem rword_any (s : ByteArray) (w : World) : Calls Tryz.prog 110 #[.string s] w fun e w' => e = .returned (.bool (wordB s)) ∧ w = w' := by
  by_cases h0 : s.size = 0
  · have h0' : ((s.size : Int) == 0) = true := by rw [h0]; rfl
    have h1' : (s.size : Int) < 1 := by omega
    have HW : Hid (wordB s = false) := Lib.hid (decide_eq_false (by omega))
    go_enter Tryz.func110, Tryz.ntmps110
    go_wp2_with fail
    go_ret
    exact ⟨by rw [HW.out]; rfl, rfl⟩
  have h0' : ((s.size : Int) == 0) = false := by rw [beq_eq_false_iff_ne]; omega
  have h1' : ¬ (s.size : Int) < 1 := by omega
  by_cases h2 : 16 < s.size
  · have h2' : (16 : Int) < s.size := by omega
    have HW : Hid (wordB s = false) := Lib.hid (decide_eq_false (by omega))
    go_enter Tryz.func110, Tryz.ntmps110
    go_wp2_with fail
    go_ret
    exact ⟨by rw [HW.out]; rfl, rfl⟩
  have h2' : (s.size : Int) ≤ 16 := by omega
  have hi0 : ∀ W, (Instr.index 9 (.string s) (.int .i64 0)).run Tryz.prog W = .ok (.int .u8 (byt s 0)) W := fun W => idx_str s 0 (by omega) (by omega) W
  have hwr : IntKind.i64.wrap ((s.size : Int) - 1) = s.size - 1 := by rw [IntKind.wrap_i64]; omega
  have hi1 : ∀ W, (Instr.index 9 (.string s) (.int .i64 ((s.size : Int) - 1))).run Tryz.prog W = .ok (.int .u8 (byt s (s.size - 1))) W := fun W => by
    have := idx_str s ((s.size : Int) - 1) (by omega) (by omega) W
    rwa [show ((s.size : Int) - 1).toNat = s.size - 1 by omega] at this
  obtain ⟨a, ha⟩ : ∃ a, byt s 0 = a := ⟨_, rfl⟩
  obtain ⟨z, hz⟩ : ∃ a, byt s (s.size - 1) = a := ⟨_, rfl⟩
  rw [ha] at hi0
  rw [hz] at hi1
  cases hl : letB a with
  | false =>
    have HW : Hid (wordB s = false) := Lib.hid (decide_eq_false (by rw [ha, hl]; simp))
    clear ha hz
    go_enter Tryz.func110, Tryz.ntmps110
    go_wp2_with (first | (go_at_call 122; refine (rletter_any _ _).mono ?_; rintro e w' ⟨rfl, rfl⟩))
    go_ret
    exact ⟨by rw [HW.out]; rfl, rfl⟩
  | true =>
    cases hy : (z == 45) with
    | true =>
      have HW : Hid (wordB s = false) := Lib.hid (decide_eq_false (by rw [hz]; have := eq_of_beq hy; omega))
      clear ha hz
      go_enter Tryz.func110, Tryz.ntmps110
      go_wp2_with (first | (go_at_call 122; refine (rletter_any _ _).mono ?_; rintro e w' ⟨rfl, rfl⟩))
      go_ret
      exact ⟨by rw [HW.out]; rfl, rfl⟩
    | false =>
      have HZ : Hid (0 < s.size ∧ s.size ≤ 16 ∧ letB (byt s 0) = true ∧ byt s (s.size - 1) ≠ 45) := Lib.hid ⟨by omega, by omega, by rw [ha, hl], by rw [hz]; exact fun c => by rw [c] at hy; simp at hy⟩
      clear ha hz
      go_enter Tryz.func110, Tryz.ntmps110
      go_wp2_with (first | (go_at_call 122; refine (rletter_any _ _).mono ?_; rintro e w' ⟨rfl, rfl⟩))
      go_loopw [3] (fun i wr => wr = w ∧ ∃ k : Nat, k ≤ s.size ∧ i = .int .i64 k ∧ Hid (∀ i, i < k → inB (byt s i) = true)) (fun i _ => s.size - (intOf i).toNat)
      case atStart => exact ⟨rfl, 0, Nat.zero_le _, rfl, Lib.hid fun i hi => by omega⟩
      case round =>
        obtain ⟨rfl, k, hk, rfl, HK⟩ := hrel
        by_cases hlt : k < s.size
        · have hk0 : (0 : Int) ≤ k := by omega
          have hk1 : (k : Int) < s.size := by omega
          have hix : ∀ W, (Instr.index 9 (.string s) (.int .i64 (k : Int))).run Tryz.prog W = .ok (.int .u8 (byt s k)) W := fun W => by
            have := idx_str s k hk0 hk1 W
            rwa [Int.toNat_natCast] at this
          clear hi0 hi1 hl hy
          obtain ⟨b, hb⟩ : ∃ b, byt s k = b := ⟨_, rfl⟩
          rw [hb] at hix
          have HB := Lib.hid hb
          clear hb
          cases hx : letB b <;> cases hy : digB b <;> cases hz : (b == 45)
          all_goals
            have hv : inB b = (letB b || digB b || b == 45) := rfl
            rw [hx, hy, hz] at hv
            have hz' : (b != 45) = !(b == 45) := rfl
            rw [hz] at hz'
            have HV := Lib.hid hv
            clear hv
            go_wp2_with (first | (go_at_call 122; refine (rletter_any _ _).mono ?_; rintro e w' ⟨rfl, rfl⟩) | (go_at_call 123; refine (rdigit_any _ _).mono ?_; rintro e w' ⟨rfl, rfl⟩))
            first
              | (go_roundw
                 case rel => exact ⟨by trivial, k + 1, by omega, by go_num, Lib.hid fun i hi => by
                   by_cases e : i = k
                   · rw [e, HB.out, HV.out]; rfl
                   · exact HK.out i (by omega)⟩
                 case measure => simp [intOf]; omega)
              | (have HW : Hid (wordB s = false) := Lib.hid (decide_eq_false fun c => by have := c.2.2.2.2 k hlt; rw [HB.out, HV.out] at this; cases this)
                 go_ret
                 exact ⟨by rw [HW.out]; rfl, rfl⟩)
        · have hd : decide ((k : Int) < s.size) = false := by rw [decide_eq_false_iff_not]; omega
          have HW : Hid (wordB s = true) := Lib.hid (decide_eq_true ⟨HZ.out.1, HZ.out.2.1, HZ.out.2.2.1, HZ.out.2.2.2, fun i hi => HK.out i (by omega)⟩)
          go_wp2_with fail
          go_ret
          exact ⟨by rw [HW.out]; rfl, rfl⟩
end Go.Proofs.YtlbkhhbbkedhkaaGreatDoor
