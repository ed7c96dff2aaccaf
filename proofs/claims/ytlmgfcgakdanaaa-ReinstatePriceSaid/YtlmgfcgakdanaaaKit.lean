/- Small words for walks over calls that make memory. No program in sight. -/
import Derived.Test.YtlmgfcgakdanaaaBlk
namespace Go.Proofs.Ytlmgfcgakdanaaa
open Go.RowKit

/-- what a call that makes memory leaves alone, as two rules of the walk -/
theorem bcell {W w1 : World} (hb : Below W.heap.size W w1) :
    (∀ b o, b < W.heap.size → w1.cell? ⟨b, o, none⟩ = W.cell? ⟨b, o, none⟩) ∧ (∀ b o, b < W.heap.size → w1.frozen? ⟨b, o, none⟩ = W.frozen? ⟨b, o, none⟩) ∧ W.heap.size ≤ w1.heap.size :=
  ⟨fun _ _ h => hb.cell h, fun _ _ h => hb.frozen h, hb.size⟩

/-- a block that is known whole, as rules of the walk -/
theorem Has.rules {w : World} {b : Nat} {cs : Array Value} {t : TypeId} (h : Has w b cs t) :
    (∀ i, w.cell? ⟨b, i, none⟩ = cs[i]?) ∧ (∀ i, w.frozen? ⟨b, i, none⟩ = false) ∧ b < w.heap.size := ⟨h.cell, h.free, h.lt⟩

/-- nothing that was there has changed but block b -/
structure Keeps (b : Nat) (w w' : World) : Prop where
  os : w'.os = w.os
  tape : w'.tape = w.tape
  output : w'.output = w.output
  size : w.heap.size ≤ w'.heap.size
  block : ∀ k, k < w.heap.size → k ≠ b → w'.heap[k]? = w.heap[k]?

section
variable {w w' w'' a : World} {b B : Nat}
theorem Keeps.refl (b : Nat) (w : World) : Keeps b w w := ⟨rfl, rfl, rfl, Nat.le_refl _, fun _ _ _ => rfl⟩
theorem Keeps.trans (h : Keeps b w w') (k : Keeps b w' w'') : Keeps b w w'' :=
  ⟨k.os.trans h.os, k.tape.trans h.tape, k.output.trans h.output, Nat.le_trans h.size k.size, fun i hi hn => (k.block i (Nat.lt_of_lt_of_le hi h.size) hn).trans (h.block i hi hn)⟩
theorem Keeps.alloc (h : Keeps b a w) (o : Obj) : Keeps b a (w.alloc o) :=
  ⟨h.os, h.tape, h.output, by have := h.size; simp; omega, fun i hi hn => (Below.heap_alloc w o i (Nat.lt_of_lt_of_le hi h.size)).trans (h.block i hi hn)⟩
theorem Keeps.drewN (h : Keeps b a w) (n : Nat) : Keeps b a (w.drewN n) := ⟨h.os, h.tape, h.output, h.size, h.block⟩
theorem Keeps.put (h : Keeps b a w) (i : Nat) (u : Value) : Keeps b a (w.setCell ⟨b, i, none⟩ u) :=
  ⟨h.os, h.tape, h.output, by have := h.size; simp; omega, fun k hk hn => (Below.heap_setCell w ⟨b, i, none⟩ u k hn).trans (h.block k hk hn)⟩
theorem Keeps.far (h : Keeps b a w) {p : Addr} (hp : a.heap.size ≤ p.block) (u : Value) : Keeps b a (w.setCell p u) :=
  ⟨h.os, h.tape, h.output, by have := h.size; simp; omega, fun k hk hn => (Below.heap_setCell w p u k (by omega)).trans (h.block k hk hn)⟩
theorem Keeps.of_below (h : Below w.heap.size w w') (b : Nat) : Keeps b w w' := ⟨h.os, h.tape, h.output, h.size, fun k hk _ => h.block k hk⟩
theorem Keeps.below (h : Keeps b w w') (hb : B ≤ b) (hw : B ≤ w.heap.size) : Below B w w' := ⟨h.os, h.tape, h.output, h.size, fun k hk => h.block k (by omega) (by omega)⟩
theorem Keeps.new (h : Keeps b w w') (hb : w.heap.size ≤ b) : Below w.heap.size w w' := h.below hb (Nat.le_refl _)
theorem Has.keeps {g : Nat} {cs : Array Value} {t : TypeId} (h : Has w g cs t) (hk : Keeps b w w') (hn : g ≠ b) : Has w' g cs t := (hk.block g h.lt hn).trans h
theorem Cells.keeps {A : Option Addr} {n : Nat} {f : Nat → Value} (h : Cells w B A n f) (hk : Keeps b w w') (hb : B ≤ b) : Cells w' B A n f := fun hn => by
  obtain ⟨ad, e, hlt, hc⟩ := h hn
  exact ⟨ad, e, hlt, fun j hj => by
    have h1 := hc j hj
    have h2 := cell_lt h1
    rw [add_block] at h2
    exact (World.cell?_of_block (w := w) (hk.block _ (by rw [add_block]; exact h2) (by rw [add_block]; omega))).trans h1⟩
end
end Go.Proofs.Ytlmgfcgakdanaaa
