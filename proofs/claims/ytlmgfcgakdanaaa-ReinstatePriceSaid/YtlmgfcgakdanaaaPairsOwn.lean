/- A slice of structs of two numbers that the call has appended together. No program in sight. -/
import Derived.Test.YtlmgfcgakdanaaaRow
import Derived.Test.YtlmgfcgakdanaaaSame
namespace Go.Proofs.Ytlmgfcgakdanaaa
open Go.RowKit

def fstOf (ps : List (Int × Int)) (j : Nat) : Int := (ps.getD j (0, 0)).1
def sndOf (ps : List (Int × Int)) (j : Nat) : Int := (ps.getD j (0, 0)).2
def cellsOf (ps : List (Int × Int)) : List Value := ps.flatMap fun a => [.int .i64 a.1, .int .i64 a.2]

theorem cellsOf_snoc (ps : List (Int × Int)) (a : Int × Int) : cellsOf (ps ++ [a]) = cellsOf ps ++ [.int .i64 a.1, .int .i64 a.2] := by simp [cellsOf]
theorem cellsOf_length (ps : List (Int × Int)) : (cellsOf ps).length = ps.length * 2 := by
  induction ps with
  | nil => rfl
  | cons a t ih =>
    have : cellsOf (a :: t) = .int .i64 a.1 :: .int .i64 a.2 :: cellsOf t := by simp [cellsOf]
    rw [this]; simp only [List.length_cons, ih]; omega
theorem cellsOf_get (ps : List (Int × Int)) (j : Nat) (h : j < ps.length * 2) : (cellsOf ps)[j]? = some (pairAt (fstOf ps) (sndOf ps) j) := by
  induction ps generalizing j with
  | nil => simp at h
  | cons a t ih =>
    have e : cellsOf (a :: t) = .int .i64 a.1 :: .int .i64 a.2 :: cellsOf t := by simp [cellsOf]
    rw [e]
    match j, h with
    | 0, _ => rfl
    | 1, _ => rfl
    | j + 2, h =>
      simp only [List.length_cons] at h
      have := ih j (by omega)
      simp only [List.getElem?_cons_succ, this]
      unfold pairAt fstOf sndOf
      rw [show (j + 2) % 2 = j % 2 by omega, show (j + 2) / 2 = j / 2 + 1 by omega]
      simp

theorem Pairs.of_own {w : World} {base : Nat} {e : TypeId} {n c : Nat} {A : Option Addr} {ps : List (Int × Int)} (h : w.ownsRow base e 2 (.slice A n c) n (cellsOf ps)) : Pairs w w.heap.size A n (fstOf ps) (sndOf ps) :=
  Cells.of_own h _ fun j hj => by
    have h1 := cellsOf_get ps j (by rw [← cellsOf_length]; exact hj)
    rw [List.getElem?_eq_getElem hj] at h1
    injection h1

theorem Keeps.grown {b : Nat} {a w w' : World} {row : Option Nat} (h : Keeps b a w) (hg : w.grownBy w' row) (hr : ∀ k, row = some k → a.heap.size ≤ k) : Keeps b a w' := by
  have hb : Below a.heap.size w w' := (Below.refl a.heap.size w).grown hg h.size hr
  exact ⟨hb.os.trans h.os, hb.tape.trans h.tape, hb.output.trans h.output, Nat.le_trans h.size hb.size, fun k hk hn => (hb.block k hk).trans (h.block k hk hn)⟩

/-- cells of a block that a deck's function leaves alone -/
theorem Cells.keeps_ne {b n : Nat} {w w' : World} {A : Option Addr} {f : Nat → Value} (h : Cells w w.heap.size A n f) (hk : Keeps b w w') (hA : ∀ ad, A = some ad → ad.block ≠ b) : Cells w' w'.heap.size A n f := fun hn => by
  obtain ⟨ad, e, hlt, hc⟩ := h hn
  exact ⟨ad, e, Nat.lt_of_lt_of_le hlt hk.size, fun j hj => by
    have h1 := hc j hj
    exact (World.cell?_of_block (w := w) (hk.block _ (by rw [add_block]; exact hlt) (by rw [add_block]; exact hA ad e))).trans h1⟩
theorem Pairs.keeps_ne {b n : Nat} {w w' : World} {A : Option Addr} {f g : Nat → Int} (h : Pairs w w.heap.size A n f g) (hk : Keeps b w w') (hA : ∀ ad, A = some ad → ad.block ≠ b) : Pairs w' w'.heap.size A n f g := Cells.keeps_ne h hk hA

theorem own_keeps {b base size n : Nat} {e : TypeId} {v : Value} {xs : List Value} {w w' : World} (h : w.ownsRow base e size v n xs) (hk : Keeps b w w') (hb : b < base) : w'.ownsRow base e size v n xs := by
  refine ⟨h.1, ?_⟩
  rcases h.2 with h0 | ⟨g, cap, cur, hv, hg, hh, hr⟩
  · exact .inl h0
  · have hlt : g < w.heap.size := Has.lt (t := e) (cs := cur) hh
    exact .inr ⟨g, cap, cur, hv, hg, (hk.block g hlt (by omega)).trans hh, hr⟩
theorem own_below {base size n : Nat} {e : TypeId} {v : Value} {xs : List Value} {w w' : World} (h : w.ownsRow base e size v n xs) (hb : Below w.heap.size w w') : w'.ownsRow base e size v n xs := by
  refine ⟨h.1, ?_⟩
  rcases h.2 with h0 | ⟨g, cap, cur, hv, hg, hh, hr⟩
  · exact .inl h0
  · have hlt : g < w.heap.size := Has.lt (t := e) (cs := cur) hh
    exact .inr ⟨g, cap, cur, hv, hg, (hb.block g hlt).trans hh, hr⟩
end Go.Proofs.Ytlmgfcgakdanaaa
