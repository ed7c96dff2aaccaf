/- A slice of structs of four numbers. No program in sight. -/
import Derived.Test.YtedkdflecdggpaaLeav
namespace Go.Proofs.Ytedkdflecdggpaa
open Go.RowKit
set_option linter.unusedVariables false

def quadL (n : Nat) (F : Nat → Nat → Int) : List Value := (List.range n).flatMap fun i => [.int .i64 (F i 0), .int .i64 (F i 1), .int .i64 (F i 2), .int .i64 (F i 3)]
theorem quadL_succ (n : Nat) (F : Nat → Nat → Int) : quadL (n + 1) F = quadL n F ++ [.int .i64 (F n 0), .int .i64 (F n 1), .int .i64 (F n 2), .int .i64 (F n 3)] := by simp [quadL, List.range_succ]
theorem quadL_length (n : Nat) (F : Nat → Nat → Int) : (quadL n F).length = n * 4 := by
  induction n with
  | zero => rfl
  | succ n ih => rw [quadL_succ, List.length_append, ih]; simp only [List.length_cons, List.length_nil]; omega
theorem quadL_get (n : Nat) (F : Nat → Nat → Int) (j : Nat) (h : j < n * 4) : (quadL n F)[j]? = some (.int .i64 (F (j / 4) (j % 4))) := by
  induction n with
  | zero => omega
  | succ n ih =>
    rw [quadL_succ]
    by_cases hj : j < n * 4
    · rw [List.getElem?_append_left (by rw [quadL_length]; exact hj), ih hj]
    · rw [List.getElem?_append_right (by rw [quadL_length]; omega), quadL_length]
      obtain ⟨t, rfl⟩ : ∃ t, j = n * 4 + t := ⟨j - n * 4, by omega⟩
      rw [show n * 4 + t - n * 4 = t by omega, show (n * 4 + t) / 4 = n by omega, show (n * 4 + t) % 4 = t by omega]
      match t, h with
      | 0, _ => rfl
      | 1, _ => rfl
      | 2, _ => rfl
      | 3, _ => rfl
      | t + 4, h => omega

/-- n structs of four numbers -/
def Quads (w : World) (B : Nat) (A : Option Addr) (n : Nat) (F : Nat → Nat → Int) : Prop := Cells w B A (n * 4) fun j => .int .i64 (F (j / 4) (j % 4))
section
variable {w w' : World} {B B' n : Nat} {A : Option Addr} {F : Nat → Nat → Int}
theorem Quads.get {j : Nat} (h : Quads w B A n F) (hj : j < n) : ∃ b o, A = some ⟨b, o, none⟩ ∧ b < B ∧ w.cell? ⟨b, o + j * 4, none⟩ = some (.int .i64 (F j 0)) ∧ w.cell? ⟨b, o + j * 4 + 1, none⟩ = some (.int .i64 (F j 1)) ∧ w.cell? ⟨b, o + j * 4 + 2, none⟩ = some (.int .i64 (F j 2)) ∧ w.cell? ⟨b, o + j * 4 + 3, none⟩ = some (.int .i64 (F j 3)) := by
  obtain ⟨b, o, e, hb, hc⟩ := Cells.plain h (by omega)
  have h0 := hc (j * 4) (by omega)
  have h1 := hc (j * 4 + 1) (by omega)
  have h2 := hc (j * 4 + 2) (by omega)
  have h3 := hc (j * 4 + 3) (by omega)
  rw [show j * 4 / 4 = j by omega, show j * 4 % 4 = 0 by omega] at h0
  rw [show (j * 4 + 1) / 4 = j by omega, show (j * 4 + 1) % 4 = 1 by omega] at h1
  rw [show (j * 4 + 2) / 4 = j by omega, show (j * 4 + 2) % 4 = 2 by omega] at h2
  rw [show (j * 4 + 3) / 4 = j by omega, show (j * 4 + 3) % 4 = 3 by omega] at h3
  exact ⟨b, o, e, hb, h0, h1, h2, h3⟩
theorem Quads.below (h : Quads w B A n F) (hb : Below B w w') : Quads w' B A n F := Cells.below h hb
theorem Quads.mono (h : Quads w B A n F) (hB : B ≤ B') : Quads w B' A n F := Cells.mono h hB
theorem Quads.drewN (h : Quads w B A n F) (k : Nat) : Quads (w.drewN k) B A n F := h
theorem Quads.zero : Quads w B A 0 F := Cells.zero
theorem Quads.of_own {base : Nat} {e : TypeId} {n c : Nat} {A : Option Addr} (h : w.ownsRow base e 4 (.slice A n c) n (quadL n F)) : Quads w w.heap.size A n F :=
  Cells.of_own h _ fun j hj => by
    have h1 := quadL_get n F j (by rw [← quadL_length n F]; exact hj)
    rw [List.getElem?_eq_getElem hj] at h1
    injection h1
/-- rows of two types lie in two blocks -/
theorem own_ne {base base' size size' n m k : Nat} {e e' : TypeId} {v v' : Value} {xs ys : List Value} (h : w.ownsRow base e size v n xs) (h' : w.ownsRow base' e' size' v' m ys) (he : e ≠ e') (hk : v.ownBlock = some k) : ¬ v'.ownBlock = some k := fun hk' => by
  rcases h.2 with ⟨h0, _⟩ | ⟨g, cap, cur, hv, hg, hh, hr⟩
  · rw [h0] at hk; cases hk
  · rcases h'.2 with ⟨h0, _⟩ | ⟨g', cap', cur', hv', hg', hh', hr'⟩
    · rw [h0] at hk'; cases hk'
    · rw [hv] at hk
      rw [hv'] at hk'
      injection hk with hk
      injection hk' with hk'
      simp only at hk hk'
      rw [hk] at hh
      rw [hk', hh] at hh'
      injection hh' with hh'
      injection hh' with _ h2
      exact he h2
end
end Go.Proofs.Ytedkdflecdggpaa
