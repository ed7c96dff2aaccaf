/- A slice of structs of two numbers, as two functions. No program in sight. -/
import Derived.Test.YtlmgfcgakdanaaaKit
import Derived.Deep.Slices
namespace Go.Proofs.Ytlmgfcgakdanaaa
open Go.RowKit

def pairAt (f g : Nat → Int) (j : Nat) : Value := if j % 2 = 0 then .int .i64 (f (j / 2)) else .int .i64 (g (j / 2))

/-- n structs of two numbers -/
def Pairs (w : World) (B : Nat) (A : Option Addr) (n : Nat) (f g : Nat → Int) : Prop := Cells w B A (n * 2) (pairAt f g)

theorem spot_none {w : World} {a : Addr} {v : Value} (h : w.cell? a = some v) : a = ⟨a.block, a.off, none⟩ := by
  obtain ⟨b, o, s⟩ := a
  cases s with
  | none => rfl
  | some s =>
    simp only [World.cell?] at h
    split at h <;> simp at h

theorem Cells.plain {w : World} {B n : Nat} {A : Option Addr} {f : Nat → Value} (h : Cells w B A n f) (hn : 0 < n) :
    ∃ b o, A = some ⟨b, o, none⟩ ∧ b < B ∧ ∀ j, j < n → w.cell? ⟨b, o + j, none⟩ = some (f j) := by
  obtain ⟨ad, e, hb, hc⟩ := h hn
  have h0 := hc 0 hn
  have e0 : ad.add 0 = ad := by simp [Addr.add]
  rw [e0] at h0
  have es := spot_none h0
  refine ⟨ad.block, ad.off, by rw [e, ← es], hb, fun j hj => ?_⟩
  have h1 := hc j hj
  rw [es, Go.WideShapes.add_plain] at h1
  exact h1

section
variable {w w' : World} {B B' n : Nat} {A : Option Addr} {f g : Nat → Int}
theorem Pairs.get {j : Nat} (h : Pairs w B A n f g) (hj : j < n) : ∃ b o, A = some ⟨b, o, none⟩ ∧ b < B ∧ w.cell? ⟨b, o + j * 2, none⟩ = some (.int .i64 (f j)) ∧ w.cell? ⟨b, o + j * 2 + 1, none⟩ = some (.int .i64 (g j)) := by
  obtain ⟨b, o, e, hb, hc⟩ := Cells.plain h (by omega)
  have h1 := hc (j * 2) (by omega)
  have h2 := hc (j * 2 + 1) (by omega)
  rw [pairAt, if_pos (by omega), show j * 2 / 2 = j by omega] at h1
  rw [pairAt, if_neg (by omega), show (j * 2 + 1) / 2 = j by omega] at h2
  exact ⟨b, o, e, hb, h1, h2⟩
theorem Pairs.below (h : Pairs w B A n f g) (hb : Below B w w') : Pairs w' B A n f g := Cells.below h hb
theorem Pairs.mono (h : Pairs w B A n f g) (hB : B ≤ B') : Pairs w B' A n f g := Cells.mono h hB
theorem Pairs.drewN (h : Pairs w B A n f g) (k : Nat) : Pairs (w.drewN k) B A n f g := h
theorem Pairs.alloc (h : Pairs w B A n f g) (hB : B ≤ w.heap.size) (o : Obj) : Pairs (w.alloc o) B A n f g := Cells.alloc h hB o
theorem Pairs.keeps {b : Nat} (h : Pairs w B A n f g) (hk : Keeps b w w') (hb : B ≤ b) : Pairs w' B A n f g := Cells.keeps h hk hb
theorem Pairs.zero : Pairs w B A 0 f g := Cells.zero
end
end Go.Proofs.Ytlmgfcgakdanaaa
