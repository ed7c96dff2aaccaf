/- excess.Layer and the reference's: what a loss exceeds a retention by, at most a limit. -/
import Derived.Test.YtlmgfcgakdanaaaExMath
import Derived.Test.YtlmgfcgakdanaaaKit
import Derived.Test.YtlmgfcgakdanaaaProg
import Derived.Lib.Hide
import Derived.Outline
namespace Go.Proofs.Ytlmgfcgakdanaaa
open Go.RowKit

theorem ret_i64 {a b : Int} (h : a = b) : Ending.returned (.int .i64 a) = .returned (.int .i64 b) := by rw [h]

set_option maxHeartbeats 400000 in
theorem least1 (x y : Int) (b : Nat) (w : World) (h : w.cell? ⟨b, 0, none⟩ = some (.int .i64 y)) :
    Calls Try.prog 86 #[.int .i64 x, .slice (some ⟨b, 0, none⟩) 1 1] w fun e w' => e = .returned (.int .i64 (min x y)) ∧ w = w' := by
  go_enter Try.func86, Try.ntmps86
  go_wp2
  go_loop [0, 6, 9] (fun s _ i => ∃ k : Nat, k ≤ 1 ∧ i = .int .i64 k ∧ s = .int .i64 (if k = 0 then x else min x y)) (fun _ _ i => 1 - (intOf i).toNat)
  case atStart => exact ⟨0, by omega, rfl, rfl⟩
  case round =>
    obtain ⟨k, hk, rfl, rfl⟩ := hrel
    have hk' : k = 0 ∨ k = 1 := by omega
    rcases hk' with rfl | rfl
    · by_cases hc : y < x
      · go_wp2
        go_round
        case rel => exact ⟨1, by omega, by go_num, by simp only [Nat.one_ne_zero, if_false]; congr 1; omega⟩
        case measure => simp [intOf]
      · go_wp2
        go_round
        case rel => exact ⟨1, by omega, by go_num, by simp only [Nat.one_ne_zero, if_false]; congr 1; omega⟩
        case measure => simp [intOf]
    · go_wp2
      go_ret
      exact ⟨ret_i64 (by simp), rfl⟩

set_option maxHeartbeats 400000 in
theorem greatest1 (x y : Int) (b : Nat) (w : World) (h : w.cell? ⟨b, 0, none⟩ = some (.int .i64 y)) :
    Calls Try.prog 88 #[.int .i64 x, .slice (some ⟨b, 0, none⟩) 1 1] w fun e w' => e = .returned (.int .i64 (max x y)) ∧ w = w' := by
  go_enter Try.func88, Try.ntmps88
  go_wp2
  go_loop [0, 6, 9] (fun s _ i => ∃ k : Nat, k ≤ 1 ∧ i = .int .i64 k ∧ s = .int .i64 (if k = 0 then x else max x y)) (fun _ _ i => 1 - (intOf i).toNat)
  case atStart => exact ⟨0, by omega, rfl, rfl⟩
  case round =>
    obtain ⟨k, hk, rfl, rfl⟩ := hrel
    have hk' : k = 0 ∨ k = 1 := by omega
    rcases hk' with rfl | rfl
    · by_cases hc : x < y
      · go_wp2
        go_round
        case rel => exact ⟨1, by omega, by go_num, by simp only [Nat.one_ne_zero, if_false]; congr 1; omega⟩
        case measure => simp [intOf]
      · go_wp2
        go_round
        case rel => exact ⟨1, by omega, by go_num, by simp only [Nat.one_ne_zero, if_false]; congr 1; omega⟩
        case measure => simp [intOf]
    · go_wp2
      go_ret
      exact ⟨ret_i64 (by simp), rfl⟩

/-- an amount that is returned; memory is made and nothing else changes -/
def IntPost (n : Int) (w : World) (e : Ending) (w' : World) : Prop := e = .returned (.int .i64 n) ∧ Below w.heap.size w w'

set_option maxHeartbeats 400000 in
theorem limited_any (n : Int) (w : World) : Calls Try.prog 87 #[.int .i64 n] w (IntPost (Ex.lim n) w) := by
  go_enter Try.func87, Try.ntmps87
  go_wp2_with fail
  refine (least1 _ 17592186044416 _ _ (by simp)).mono ?_
  rintro e w' ⟨rfl, rfl⟩
  go_wp2_with fail
  refine (greatest1 _ _ _ _ (by simp; rfl)).mono ?_
  rintro e w' ⟨rfl, rfl⟩
  go_wp2_with fail
  go_ret
  exact ⟨rfl, ((Below.refl _ _).alloc (Nat.le_refl _) _).alloc (by simp) _⟩

set_option maxHeartbeats 1000000 in
theorem layer_any (a r l : Int) (w : World) : Calls Try.prog 80 #[.int .i64 a, .int .i64 r, .int .i64 l] w (IntPost (Ex.layer a r l) w) := by
  have ha := Ex.lim_bound a
  have hr := Ex.lim_bound r
  obtain ⟨xa, hxa⟩ : ∃ x, Ex.lim a = x := ⟨_, rfl⟩
  obtain ⟨xr, hxr⟩ : ∃ x, Ex.lim r = x := ⟨_, rfl⟩
  obtain ⟨xl, hxl⟩ : ∃ x, Ex.lim l = x := ⟨_, rfl⟩
  have HL : Hid (Ex.layer a r l = min xl (max 0 (xa - xr))) := Lib.hid (by rw [Ex.layer, hxa, hxr, hxl])
  have CA := Lib.hid (limited_any a)
  have CR := Lib.hid (limited_any r)
  have CL := Lib.hid (limited_any l)
  rw [hxa] at ha CA
  rw [hxr] at hr CR
  rw [hxl] at CL
  obtain ⟨a0, a1⟩ := ha
  obtain ⟨r0, r1⟩ := hr
  clear hxa hxr hxl
  go_enter Try.func80, Try.ntmps80
  go_wp2_with fail
  refine (CL.out _).mono ?_
  rintro e w1 ⟨rfl, hb1⟩
  go_wp2_with fail
  refine (CA.out _).mono ?_
  rintro e w2 ⟨rfl, hb2⟩
  go_wp2_with fail
  refine (CR.out _).mono ?_
  rintro e w3 ⟨rfl, hb3⟩
  have HB : Hid (Below w.heap.size w w3) := Lib.hid (hb1.trans ((hb2.mono hb1.size).trans (hb3.mono (Nat.le_trans hb1.size hb2.size))))
  have hs := HB.out.size
  clear hb1 hb2 hb3 CA CR CL
  go_wp2_with fail
  refine (greatest1 _ _ _ _ (by simp; rfl)).mono ?_
  rintro e w' ⟨rfl, rfl⟩
  go_wp2_with fail
  refine (least1 _ _ _ _ (by simp; rfl)).mono ?_
  rintro e w' ⟨rfl, rfl⟩
  go_wp2_with fail
  go_ret
  exact ⟨ret_i64 HL.out.symm, (HB.out.alloc hs _).alloc (by simp; omega) _⟩



set_option maxHeartbeats 400000 in
theorem ramount_any (n : Int) (w : World) : Calls Try.prog 68 #[.int .i64 n] w fun e w' => e = .returned (.bool (decide (0 ≤ n ∧ n ≤ 17592186044416))) ∧ w = w' := by
  by_cases h0 : 0 ≤ n
  · by_cases h1 : n ≤ 17592186044416
    · go_enter Try.func68, Try.ntmps68
      go_wp2
      go_ret
      exact ⟨by simp [h0, h1], rfl⟩
    · go_enter Try.func68, Try.ntmps68
      go_wp2
      go_ret
      exact ⟨by simp; omega, rfl⟩
  · go_enter Try.func68, Try.ntmps68
    go_wp2
    go_ret
    exact ⟨by simp; omega, rfl⟩

set_option maxHeartbeats 400000 in
theorem inhours_any (n : Int) (w : World) : Calls Try.prog 44 #[.int .i64 n] w fun e w' => e = .returned (.bool (decide (0 ≤ n ∧ n ≤ 876599))) ∧ w = w' := by
  by_cases h0 : 0 ≤ n
  · by_cases h1 : n ≤ 876599
    · go_enter Try.func44, Try.ntmps44
      go_wp2
      go_ret
      exact ⟨by simp [h0, h1], rfl⟩
    · go_enter Try.func44, Try.ntmps44
      go_wp2
      go_ret
      exact ⟨by simp; omega, rfl⟩
  · go_enter Try.func44, Try.ntmps44
    go_wp2
    go_ret
    exact ⟨by simp; omega, rfl⟩
end Go.Proofs.Ytlmgfcgakdanaaa
