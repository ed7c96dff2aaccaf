/- Worlds that differ in some of the blocks. No program in sight. -/
import Derived.Test.YtlmgfcgakdanaaaOwnN
namespace Go.Proofs.Ytlmgfcgakdanaaa
open Go.RowKit
set_option linter.unusedVariables false

set_option maxRecDepth 100000 in
theorem i64_info : (Try.prog.info? 3).map (fun i => (i.zero, i.size, i.bytes)) = some (some (.int .i64 0), 1, 8) := by kernel_rfl

/-- nothing that was there has changed but blocks of S -/
structure Leaves (S : Nat → Prop) (w w' : World) : Prop where
  os : w'.os = w.os
  tape : w'.tape = w.tape
  output : w'.output = w.output
  size : w.heap.size ≤ w'.heap.size
  block : ∀ k, k < w.heap.size → ¬ S k → w'.heap[k]? = w.heap[k]?

section
variable {S T : Nat → Prop} {a w w' w'' : World} {B : Nat}
theorem Leaves.refl (S : Nat → Prop) (w : World) : Leaves S w w := ⟨rfl, rfl, rfl, Nat.le_refl _, fun _ _ _ => rfl⟩
theorem Leaves.trans' (h : Leaves S a w) (k : Leaves T w w') (hT : ∀ i, i < a.heap.size → T i → S i) : Leaves S a w' :=
  ⟨k.os.trans h.os, k.tape.trans h.tape, k.output.trans h.output, Nat.le_trans h.size k.size, fun i hi hn => (k.block i (Nat.lt_of_lt_of_le hi h.size) fun c => hn (hT i hi c)).trans (h.block i hi hn)⟩
theorem Leaves.trans (h : Leaves S a w) (k : Leaves S w w') : Leaves S a w' := h.trans' k fun _ _ c => c
theorem Leaves.step (h : Leaves S a w) (k : Below w.heap.size w w') : Leaves S a w' :=
  ⟨k.os.trans h.os, k.tape.trans h.tape, k.output.trans h.output, Nat.le_trans h.size k.size, fun i hi hn => (k.block i (Nat.lt_of_lt_of_le hi h.size)).trans (h.block i hi hn)⟩
theorem Leaves.alloc (h : Leaves S a w) (o : Obj) : Leaves S a (w.alloc o) := h.step ((Below.refl _ _).alloc (Nat.le_refl _) o)
theorem Leaves.drewN (h : Leaves S a w) (n : Nat) : Leaves S a (w.drewN n) := ⟨h.os, h.tape, h.output, h.size, h.block⟩
theorem Leaves.drew (h : Leaves S a w) : Leaves S a w.drew := ⟨h.os, h.tape, h.output, h.size, h.block⟩
theorem Leaves.put (h : Leaves S a w) {p : Addr} (hp : S p.block ∨ a.heap.size ≤ p.block) (u : Value) : Leaves S a (w.setCell p u) :=
  ⟨h.os, h.tape, h.output, by have := h.size; simp; omega, fun k hk hn => (Below.heap_setCell w p u k (fun e => by subst e; rcases hp with c | c; exact hn c; omega)).trans (h.block k hk hn)⟩
theorem Leaves.one (w : World) (b j : Nat) (u : Value) : Leaves (fun k => k = b) w (w.setCell ⟨b, j, none⟩ u) := Leaves.put (S := fun k => k = b) (p := ⟨b, j, none⟩) (Leaves.refl _ w) (.inl rfl) u
theorem Leaves.grown {row : Option Nat} (h : Leaves S a w) (hg : w.grownBy w' row) (hr : ∀ k, row = some k → S k ∨ a.heap.size ≤ k) : Leaves S a w' :=
  ⟨hg.os.trans h.os, hg.tape.trans h.tape, hg.output.trans h.output, Nat.le_trans h.size hg.size, fun k hk hn => (hg.block k (Nat.lt_of_lt_of_le hk h.size) (fun e => by rcases hr k e.symm with c | c; exact hn c; omega)).trans (h.block k hk hn)⟩
theorem Leaves.below (h : Leaves S w w') (hS : ∀ k, S k → B ≤ k) (hB : B ≤ w.heap.size) : Below B w w' :=
  ⟨h.os, h.tape, h.output, h.size, fun k hk => h.block k (by omega) fun c => by have := hS k c; omega⟩
theorem Leaves.new (h : Leaves S w w') (hS : ∀ k, S k → w.heap.size ≤ k) : Below w.heap.size w w' := h.below hS (Nat.le_refl _)
theorem Leaves.mono (h : Leaves S w w') (hS : ∀ k, S k → T k) : Leaves T w w' := ⟨h.os, h.tape, h.output, h.size, fun k hk hn => h.block k hk fun c => hn (hS k c)⟩
theorem Has.leaves {g : Nat} {cs : Array Value} {t : TypeId} (h : Has w g cs t) (hk : Leaves S w w') (hn : ¬ S g) : Has w' g cs t := (hk.block g h.lt hn).trans h
theorem Cells.leaves {A : Option Addr} {n : Nat} {f : Nat → Value} (h : Cells w w.heap.size A n f) (hk : Leaves S w w') (hA : ∀ ad, A = some ad → ¬ S ad.block) : Cells w' w'.heap.size A n f := fun hn => by
  obtain ⟨ad, e, hlt, hc⟩ := h hn
  exact ⟨ad, e, Nat.lt_of_lt_of_le hlt hk.size, fun j hj => by
    have h1 := hc j hj
    exact (World.cell?_of_block (w := w) (hk.block _ (by rw [add_block]; exact hlt) (by rw [add_block]; exact hA ad e))).trans h1⟩
theorem own_leaves {base size n : Nat} {e : TypeId} {v : Value} {xs : List Value} (h : w.ownsRow base e size v n xs) (hk : Leaves S w w') (hS : ∀ k, v.ownBlock = some k → ¬ S k) : w'.ownsRow base e size v n xs := by
  refine ⟨h.1, ?_⟩
  rcases h.2 with h0 | ⟨g, cap, cur, hv, hg, hh, hr⟩
  · exact .inl h0
  · have hlt : g < w.heap.size := Has.lt (t := e) (cs := cur) hh
    exact .inr ⟨g, cap, cur, hv, hg, (hk.block g hlt (hS g (by rw [hv]; rfl))).trans hh, hr⟩
theorem own_lt {base size n k : Nat} {e : TypeId} {v : Value} {xs : List Value} (h : w.ownsRow base e size v n xs) (hv : v.ownBlock = some k) : k < w.heap.size ∧ base ≤ k := by
  rcases h.2 with ⟨h0, _⟩ | ⟨g, cap, cur, hv', hg, hh, hr⟩
  · rw [h0] at hv; cases hv
  · rw [hv'] at hv
    injection hv with hv
    simp only at hv
    subst hv
    exact ⟨Has.lt (t := e) (cs := cur) hh, hg⟩
end
end Go.Proofs.Ytlmgfcgakdanaaa
