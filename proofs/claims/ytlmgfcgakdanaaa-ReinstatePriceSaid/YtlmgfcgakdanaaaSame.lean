/- The reference's SameInts: two lists of the same numbers. -/
import Derived.Test.YtlmgfcgakdanaaaPairs
import Derived.Test.YtlmgfcgakdanaaaProg
import Derived.Lib.Hide
import Derived.Deep.QuietTactic
import Derived.BigQuiet
namespace Go.Proofs.Ytlmgfcgakdanaaa
open Go.RowKit

/-- a slice of n numbers -/
def Nums (w : World) (B : Nat) (A : Option Addr) (n : Nat) (f : Nat → Int) : Prop := Cells w B A n fun j => .int .i64 (f j)

section
variable {w w' : World} {B B' n : Nat} {A : Option Addr} {f g : Nat → Int}
theorem Nums.get {j : Nat} (h : Nums w B A n f) (hj : j < n) : ∃ b o, A = some ⟨b, o, none⟩ ∧ b < B ∧ w.cell? ⟨b, o + j, none⟩ = some (.int .i64 (f j)) := by
  obtain ⟨b, o, e, hb, hc⟩ := Cells.plain h (by omega)
  exact ⟨b, o, e, hb, hc j hj⟩
theorem Nums.below (h : Nums w B A n f) (hb : Below B w w') : Nums w' B A n f := Cells.below h hb
theorem Nums.mono (h : Nums w B A n f) (hB : B ≤ B') : Nums w B' A n f := Cells.mono h hB
theorem Nums.drewN (h : Nums w B A n f) (k : Nat) : Nums (w.drewN k) B A n f := h
theorem Nums.alloc (h : Nums w B A n f) (hB : B ≤ w.heap.size) (o : Obj) : Nums (w.alloc o) B A n f := Cells.alloc h hB o
theorem Nums.zero : Nums w B A 0 f := Cells.zero
theorem Nums.congr (h : Nums w B A n f) (e : ∀ j, j < n → f j = g j) : Nums w B A n g := Cells.congr h fun j hj => by rw [e j hj]
end

end Go.Proofs.Ytlmgfcgakdanaaa
