/- The parts of commission.Profit: the last elements of a list, a sum, the share of an amount. -/
import Derived.Test.YtedkdflecdggpaaCoMath3
import Derived.Test.YtedkdflecdggpaaCoA
import Derived.Test.YtedkdflecdggpaaOwnN
namespace Go.Proofs.Ytedkdflecdggpaa
open Go.RowKit
set_option linter.unusedVariables false

theorem Co.sumr_shift (F : Nat → Int) (s : Nat) : ∀ k, Co.sumr (fun j => F (s + j)) 0 k = Co.sumr F s k := fun k => by
  induction k with
  | zero => rfl
  | succ k ih => rw [Co.sumr, Co.sumr, ih, Nat.zero_add]

set_option maxHeartbeats 400000 in
theorem csum_any (A : Option Addr) (n c : Nat) (f : Nat → Int) (B : Nat) (w : World) (hn : n ≤ 1000) (hb : ∀ j, 0 ≤ f j ∧ f j ≤ 68719476736) (h : Nums w B A n f) :
    Calls Try.prog 39 #[.slice A n c] w fun e w' => e = .returned (.int .i64 (Co.sumr f 0 n)) ∧ w = w' := by
  have H := Lib.hid h
  have HBD := Lib.hid hb
  clear h hb
  go_enter Try.func39, Try.ntmps39
  go_wp2
  go_loop [3, 5, 8] (fun t _ i => ∃ k : Nat, k ≤ n ∧ i = .int .i64 k ∧ t = .int .i64 (Co.sumr f 0 k)) (fun _ _ i => n - (intOf i).toNat)
  case atStart => exact ⟨0, Nat.zero_le _, rfl, rfl⟩
  case round =>
    obtain ⟨k, hk, rfl, rfl⟩ := hrel
    by_cases hlt : k < n
    · obtain ⟨b, o, rfl, _, hc⟩ := H.out.get hlt
      have hs := Co.sumr_bound (s := 0) k HBD.out
      have hx := HBD.out k
      obtain ⟨x, hx'⟩ : ∃ x, f k = x := ⟨_, rfl⟩
      obtain ⟨s, hs'⟩ : ∃ s, Co.sumr f 0 k = s := ⟨_, rfl⟩
      have HS : Hid (Co.sumr f 0 (k + 1) = s + x) := Lib.hid (by rw [Co.sumr, Nat.zero_add, hx', hs'])
      rw [hx'] at hc hx
      rw [hs'] at hs ⊢
      obtain ⟨x0, x1⟩ := hx
      obtain ⟨s0, s1⟩ := hs
      have s2 : s ≤ 68719476736000 := by omega
      clear hx' hs' s1
      go_wp2
      go_round
      case rel => exact ⟨k + 1, by omega, by go_num, by rw [HS.out]⟩
      case measure => simp [intOf]; omega
    · obtain rfl : k = n := by omega
      go_wp2
      go_ret
      exact ⟨rfl, rfl⟩

/-- the last elements of a list -/
def LastPost (A : Option Addr) (n c : Nat) (w : World) (e : Ending) (w' : World) : Prop :=
  ∃ (A' : Option Addr) (c' : Nat), e = .returned (.slice A' (n - (n - c)) c') ∧ (0 < n - (n - c) → ∃ g, A = some ⟨g, 0, none⟩ ∧ A' = some ⟨g, n - c, none⟩) ∧ w = w'

set_option maxHeartbeats 400000 in
theorem last_nil (c : Nat) (w : World) (hc : c ≤ 20) : Calls Try.prog 38 #[.slice none 0 0, .int .i64 c] w (LastPost none 0 c w) := by
  have h0 : (0 : Int) - c ≤ 0 := by omega
  have hm : max (0 : Int) (0 - (c : Int)) = 0 := by omega
  go_enter Try.func38, Try.ntmps38
  unfold LastPost
  rw [show 0 - (0 - c) = 0 by omega]
  go_wp2
  go_ret
  exact ⟨_, _, rfl, fun h => absurd h (by omega), rfl⟩

set_option maxHeartbeats 400000 in
theorem last_some (g n cap c : Nat) (w : World) (hn : n ≤ 100) (hcap : n ≤ cap) (hc : c ≤ 20) : Calls Try.prog 38 #[.slice (some ⟨g, 0, none⟩) n cap, .int .i64 c] w (LastPost (some ⟨g, 0, none⟩) n c w) := by
  obtain ⟨s, hs⟩ : ∃ s, n - c = s := ⟨_, rfl⟩
  have hm : max (0 : Int) ((n : Int) - (c : Int)) = s := by omega
  unfold LastPost
  rw [hs]
  have hsn : s ≤ n := by omega
  have hsc : s ≤ cap := by omega
  have hs0 : (0 : Int) ≤ s := by omega
  have hs1 : (s : Int) ≤ n := by omega
  have hs2 : (s : Int) ≤ cap := by omega
  clear hs
  by_cases hz : cap - s = 0
  · go_enter Try.func38, Try.ntmps38
    go_wp2
    go_ret
    exact ⟨_, _, rfl, fun h => absurd h (by omega), rfl⟩
  · go_enter Try.func38, Try.ntmps38
    go_wp2
    go_ret
    exact ⟨_, _, rfl, fun h => ⟨g, rfl, by simp⟩, rfl⟩

set_option maxHeartbeats 400000 in
theorem cshare_any (a x : Int) (b : Nat) (w : World) (ha : Co.lossP a) (hx : Co.loadP x) :
    Calls Try.prog 34 #[.int .i64 a, .int .i64 x, .pointer (some ⟨b, 0, none⟩)] w fun e w' => e = .returned (.int .i64 (Co.part a x)) ∧ ∃ n, w' = w.drewN n := by
  have C1 := Lib.hid (share_any a x 4)
  rw [(Co.part_md ha hx).1] at C1
  obtain ⟨q, hq⟩ : ∃ q, Co.part a x = q := ⟨_, rfl⟩
  rw [hq] at C1 ⊢
  clear ha hx hq
  go_enter Try.func34, Try.ntmps34
  go_wp2_with fail
  refine (C1.out _).mono ?_
  rintro e w1 ⟨rfl, n1, rfl⟩
  go_wp2_with fail
  go_ret
  exact ⟨rfl, _, rfl⟩
end Go.Proofs.Ytedkdflecdggpaa
