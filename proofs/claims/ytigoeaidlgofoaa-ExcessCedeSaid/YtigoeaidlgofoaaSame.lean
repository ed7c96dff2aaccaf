/- The reference's SameInts: two lists of the same numbers. -/
import Derived.Test.YtigoeaidlgofoaaPairs
import Derived.Test.YtigoeaidlgofoaaProg
import Derived.Lib.Hide
import Derived.Deep.QuietTactic
import Derived.BigQuiet
namespace Go.Proofs.Ytigoeaidlgofoaa
open Go.RowKit

/-- a slice of n numbers -/
def Nums (w : World) (B : Nat) (A : Option Addr) (n : Nat) (f : Nat → Int) : Prop := Cells w B A n fun j => .int .i64 (f j)

section
variable {w w' : World} {B B' n : Nat} {A : Option Addr} {f g : Nat → Int}
theorem Nums.get {j : Nat} (h : Nums w B A n f) (hj : j < n) : ∃ b o, A = some ⟨b, o, none⟩ ∧ b < B ∧ w.cell? ⟨b, o + j, none⟩ = some (.int .i64 (f j)) := by
  obtain ⟨b, o, e, hb, hc⟩ := Cells.plain h (by omega)
  exact ⟨b, o, e, hb, hc j hj⟩
theorem Nums.below (h : Nums w B A n f) (hb : Below B w w') : Nums w' B A n f := Cells.below h hb
theorem Nums.mono (h : Nums w B A n f) (hB : B ≤ B') : Nums w B' A n f := Cells.mono h hB
theorem Nums.drewN (h : Nums w B A n f) (k : Nat) : Nums (w.drewN k) B A n f := h
theorem Nums.alloc (h : Nums w B A n f) (hB : B ≤ w.heap.size) (o : Obj) : Nums (w.alloc o) B A n f := Cells.alloc h hB o
theorem Nums.zero : Nums w B A 0 f := Cells.zero
theorem Nums.congr (h : Nums w B A n f) (e : ∀ j, j < n → f j = g j) : Nums w B A n g := Cells.congr h fun j hj => by rw [e j hj]
end

set_option maxHeartbeats 1000000 in
theorem same_yes (A A2 : Option Addr) (n c c2 : Nat) (f : Nat → Int) (B B2 : Nat) (w : World) (hn : n ≤ 9223372036854775807) (h1 : Nums w B A n f) (h2 : Nums w B2 A2 n f) :
    Calls Try.prog 21 #[.slice A n c, .slice A2 n c2] w fun e w' => e = .returned (.bool true) ∧ ∃ m, w' = w.drewN m := by
  have H1 := Lib.hid h1
  have H2 := Lib.hid h2
  clear h1 h2
  go_enter Try.func21, Try.ntmps21
  go_wp2
  go_loopw [5] (fun i wr => ∃ k : Nat, k ≤ n ∧ i = .int .i64 k ∧ ∃ m, wr = w.drewN m) (fun i _ => n - (intOf i).toNat)
  case atStart => exact ⟨0, Nat.zero_le _, rfl, 0, rfl⟩
  case round =>
    obtain ⟨k, hk, rfl, m, rfl⟩ := hrel
    by_cases hlt : k < n
    · obtain ⟨b, o, rfl, _, hc⟩ := H1.out.get hlt
      obtain ⟨b', o', rfl, _, hc'⟩ := H2.out.get hlt
      obtain ⟨x, hx⟩ : ∃ x, f k = x := ⟨_, rfl⟩
      rw [hx] at hc hc'
      have hk0 : (0 : Int) ≤ k := by omega
      have hk1 : (k : Int) < n := by omega
      clear hx
      go_wp2
      go_quiet (fail)
      go_wp2
      go_roundw
      case rel => exact ⟨k + 1, by omega, by go_num, _, by first | rfl | exact World.drewN_drewN _ _ _⟩
      case measure => simp [intOf]; omega
    · go_wp2
      go_ret
      exact ⟨rfl, m, rfl⟩
end Go.Proofs.Ytigoeaidlgofoaa
