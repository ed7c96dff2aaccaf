/- Two lists of numbers compared. -/
import Derived.Test.YtdfajopniflaaaaReA
namespace Go.Proofs.Ytdfajopniflaaaa
open Go.RowKit
set_option linter.unusedVariables false

/-- are the first n numbers the same? -/
def eqn (n : Nat) (f g : Nat → Int) : Prop := ∀ i, i < n → f i = g i
instance (n : Nat) (f g : Nat → Int) : Decidable (eqn n f g) := inferInstanceAs (Decidable (∀ i, i < n → f i = g i))

set_option maxHeartbeats 1000000 in
theorem equal_any (A A2 : Option Addr) (n c c2 : Nat) (f g : Nat → Int) (B B2 : Nat) (w : World) (hn : n ≤ 9223372036854775807) (h1 : Nums w B A n f) (h2 : Nums w B2 A2 n g) :
    Calls Try.prog 35 #[.slice A n c, .slice A2 n c2] w fun e w' => e = .returned (.bool (decide (eqn n f g))) ∧ ∃ m, w' = w.drewN m := by
  have H1 := Lib.hid h1
  have H2 := Lib.hid h2
  obtain ⟨d, hd⟩ : ∃ d, decide (eqn n f g) = d := ⟨_, rfl⟩
  rw [hd]
  have HD := Lib.hid hd
  clear h1 h2 hd
  go_enter Try.func35, Try.ntmps35
  go_wp2
  go_loopw [5, 13] (fun _ i wr => ∃ k : Nat, k ≤ n ∧ i = .int .i64 k ∧ Hid (∀ j, j < k → f j = g j) ∧ ∃ m, wr = w.drewN m) (fun _ i _ => n - (intOf i).toNat)
  case atStart => exact ⟨0, Nat.zero_le _, rfl, Lib.hid fun j hj => absurd hj (by omega), 0, rfl⟩
  case round =>
    obtain ⟨k, hk, rfl, HE, m, rfl⟩ := hrel
    by_cases hlt : k < n
    · obtain ⟨b, o, rfl, _, hc⟩ := H1.out.get hlt
      obtain ⟨b', o', rfl, _, hc'⟩ := H2.out.get hlt
      obtain ⟨x, hx⟩ : ∃ x, f k = x := ⟨_, rfl⟩
      obtain ⟨y, hy⟩ : ∃ y, g k = y := ⟨_, rfl⟩
      rw [hx] at hc
      rw [hy] at hc'
      have hk0 : (0 : Int) ≤ k := by omega
      have hk1 : (k : Int) < n := by omega
      by_cases he : x = y
      · subst he
        have HE2 : Hid (∀ j, j < k + 1 → f j = g j) := Lib.hid fun j hj => by
          by_cases e : j = k
          · rw [e, hx, hy]
          · exact HE.out j (by omega)
        clear hx hy
        go_wp2
        go_quiet (fail)
        go_wp2
        go_roundw
        case rel => exact ⟨k + 1, by omega, by go_num, HE2, _, by first | rfl | exact World.drewN_drewN _ _ _⟩
        case measure => simp [intOf]; omega
      · have HF : Hid (d = false) := Lib.hid (by rw [← HD.out, decide_eq_false_iff_not]; intro c; exact he (by rw [← hx, ← hy]; exact c k hlt))
        have hne : (x != y) = true := by rw [bne_iff_ne]; exact he
        clear hx hy he
        go_wp2
        go_quiet (fail)
        go_wp2
        go_ret
        exact ⟨by rw [HF.out]; rfl, _, by first | rfl | exact World.drewN_drewN _ _ _⟩
    · have HF : Hid (d = true) := Lib.hid (by rw [← HD.out, decide_eq_true_iff]; exact fun i hi => HE.out i (by omega))
      go_wp2
      go_ret
      exact ⟨by rw [HF.out]; rfl, m, rfl⟩

set_option maxHeartbeats 1000000 in
theorem same_any (A A2 : Option Addr) (n c c2 : Nat) (f g : Nat → Int) (B B2 : Nat) (w : World) (hn : n ≤ 9223372036854775807) (h1 : Nums w B A n f) (h2 : Nums w B2 A2 n g) :
    Calls Try.prog 18 #[.slice A n c, .slice A2 n c2] w fun e w' => e = .returned (.bool (decide (eqn n f g))) ∧ ∃ m, w' = w.drewN m := by
  have H1 := Lib.hid h1
  have H2 := Lib.hid h2
  obtain ⟨d, hd⟩ : ∃ d, decide (eqn n f g) = d := ⟨_, rfl⟩
  rw [hd]
  have HD := Lib.hid hd
  clear h1 h2 hd
  go_enter Try.func18, Try.ntmps18
  go_wp2
  go_loopw [5] (fun i wr => ∃ k : Nat, k ≤ n ∧ i = .int .i64 k ∧ Hid (∀ j, j < k → f j = g j) ∧ ∃ m, wr = w.drewN m) (fun i _ => n - (intOf i).toNat)
  case atStart => exact ⟨0, Nat.zero_le _, rfl, Lib.hid fun j hj => absurd hj (by omega), 0, rfl⟩
  case round =>
    obtain ⟨k, hk, rfl, HE, m, rfl⟩ := hrel
    by_cases hlt : k < n
    · obtain ⟨b, o, rfl, _, hc⟩ := H1.out.get hlt
      obtain ⟨b', o', rfl, _, hc'⟩ := H2.out.get hlt
      obtain ⟨x, hx⟩ : ∃ x, f k = x := ⟨_, rfl⟩
      obtain ⟨y, hy⟩ : ∃ y, g k = y := ⟨_, rfl⟩
      rw [hx] at hc
      rw [hy] at hc'
      have hk0 : (0 : Int) ≤ k := by omega
      have hk1 : (k : Int) < n := by omega
      by_cases he : x = y
      · subst he
        have HE2 : Hid (∀ j, j < k + 1 → f j = g j) := Lib.hid fun j hj => by
          by_cases e : j = k
          · rw [e, hx, hy]
          · exact HE.out j (by omega)
        clear hx hy
        go_wp2
        go_quiet (fail)
        go_wp2
        go_roundw
        case rel => exact ⟨k + 1, by omega, by go_num, HE2, _, by first | rfl | exact World.drewN_drewN _ _ _⟩
        case measure => simp [intOf]; omega
      · have HF : Hid (d = false) := Lib.hid (by rw [← HD.out, decide_eq_false_iff_not]; intro c; exact he (by rw [← hx, ← hy]; exact c k hlt))
        have hne : (x != y) = true := by rw [bne_iff_ne]; exact he
        have hne2 : (x == y) = false := by rw [beq_eq_false_iff_ne]; exact he
        clear hx hy he
        go_wp2
        go_quiet (fail)
        go_wp2
        go_ret
        exact ⟨by rw [HF.out]; rfl, _, by first | rfl | exact World.drewN_drewN _ _ _⟩
    · have HF : Hid (d = true) := Lib.hid (by rw [← HD.out, decide_eq_true_iff]; exact fun i hi => HE.out i (by omega))
      go_wp2
      go_ret
      exact ⟨by rw [HF.out]; rfl, m, rfl⟩
end Go.Proofs.Ytdfajopniflaaaa
