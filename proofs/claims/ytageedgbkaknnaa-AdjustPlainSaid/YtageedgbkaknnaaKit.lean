/- Small words for walks over calls that make memory. No program in sight. -/
import Derived.Test.YtageedgbkaknnaaBlk
namespace Go.Proofs.Ytageedgbkaknnaa
open Go.RowKit

/-- what a call that makes memory leaves alone, as two rules of the walk -/
theorem bcell {W w1 : World} (hb : Below W.heap.size W w1) :
    (∀ b o, b < W.heap.size → w1.cell? ⟨b, o, none⟩ = W.cell? ⟨b, o, none⟩) ∧ (∀ b o, b < W.heap.size → w1.frozen? ⟨b, o, none⟩ = W.frozen? ⟨b, o, none⟩) ∧ W.heap.size ≤ w1.heap.size :=
  ⟨fun _ _ h => hb.cell h, fun _ _ h => hb.frozen h, hb.size⟩

/-- a block that is known whole, as rules of the walk -/
theorem Has.rules {w : World} {b : Nat} {cs : Array Value} {t : TypeId} (h : Has w b cs t) :
    (∀ i, w.cell? ⟨b, i, none⟩ = cs[i]?) ∧ (∀ i, w.frozen? ⟨b, i, none⟩ = false) ∧ b < w.heap.size := ⟨h.cell, h.free, h.lt⟩
end Go.Proofs.Ytageedgbkaknnaa
