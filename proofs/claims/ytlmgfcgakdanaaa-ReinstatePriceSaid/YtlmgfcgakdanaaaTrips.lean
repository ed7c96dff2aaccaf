/- A slice of structs of three numbers. No program in sight. -/
import Derived.Test.YtlmgfcgakdanaaaPairsOwn
namespace Go.Proofs.Ytlmgfcgakdanaaa
open Go.RowKit
set_option linter.unusedVariables false

/-- three numbers -/
structure T3 where
  a : Int
  b : Int
  c : Int
deriving DecidableEq
def tripAt (f : Nat → T3) (j : Nat) : Value := .int .i64 (if j % 3 = 0 then (f (j / 3)).a else if j % 3 = 1 then (f (j / 3)).b else (f (j / 3)).c)
/-- n structs of three numbers -/
def Trips (w : World) (B : Nat) (A : Option Addr) (n : Nat) (f : Nat → T3) : Prop := Cells w B A (n * 3) (tripAt f)

section
variable {w w' : World} {B B' n : Nat} {A : Option Addr} {f g : Nat → T3}
theorem Trips.get {j : Nat} (h : Trips w B A n f) (hj : j < n) : ∃ b o, A = some ⟨b, o, none⟩ ∧ b < B ∧ w.cell? ⟨b, o + j * 3, none⟩ = some (.int .i64 (f j).a) ∧ w.cell? ⟨b, o + j * 3 + 1, none⟩ = some (.int .i64 (f j).b) ∧ w.cell? ⟨b, o + j * 3 + 1 + 1, none⟩ = some (.int .i64 (f j).c) := by
  obtain ⟨b, o, e, hb, hc⟩ := Cells.plain h (by omega)
  have h1 := hc (j * 3) (by omega)
  have h2 := hc (j * 3 + 1) (by omega)
  have h3 := hc (j * 3 + 2) (by omega)
  rw [tripAt, if_pos (by omega), show j * 3 / 3 = j by omega] at h1
  rw [tripAt, if_neg (by omega), if_pos (by omega), show (j * 3 + 1) / 3 = j by omega] at h2
  rw [tripAt, if_neg (by omega), if_neg (by omega), show (j * 3 + 2) / 3 = j by omega] at h3
  exact ⟨b, o, e, hb, h1, h2, h3⟩
theorem Trips.below (h : Trips w B A n f) (hb : Below B w w') : Trips w' B A n f := Cells.below h hb
theorem Trips.mono (h : Trips w B A n f) (hB : B ≤ B') : Trips w B' A n f := Cells.mono h hB
theorem Trips.drewN (h : Trips w B A n f) (k : Nat) : Trips (w.drewN k) B A n f := h
theorem Trips.zero : Trips w B A 0 f := Cells.zero
theorem Trips.keeps_ne {b : Nat} (h : Trips w w.heap.size A n f) (hk : Keeps b w w') (hA : ∀ ad, A = some ad → ad.block ≠ b) : Trips w' w'.heap.size A n f := Cells.keeps_ne h hk hA
theorem Trips.congr (h : Trips w B A n f) (e : ∀ j, j < n → f j = g j) : Trips w B A n g := Cells.congr h fun j hj => by unfold tripAt; rw [e (j / 3) (by omega)]
end

def t3L (l : List T3) : List Value := l.flatMap fun x => [.int .i64 x.a, .int .i64 x.b, .int .i64 x.c]
def t3At (l : List T3) (j : Nat) : T3 := l.getD j ⟨0, 0, 0⟩
theorem t3L_snoc (l : List T3) (x : T3) : t3L (l ++ [x]) = t3L l ++ [.int .i64 x.a, .int .i64 x.b, .int .i64 x.c] := by simp [t3L]
theorem t3L_length (l : List T3) : (t3L l).length = l.length * 3 := by
  induction l with
  | nil => rfl
  | cons a t ih =>
    have : t3L (a :: t) = .int .i64 a.a :: .int .i64 a.b :: .int .i64 a.c :: t3L t := by simp [t3L]
    rw [this]; simp only [List.length_cons, ih]; omega
theorem t3L_get (l : List T3) (j : Nat) (h : j < l.length * 3) : (t3L l)[j]? = some (tripAt (t3At l) j) := by
  induction l generalizing j with
  | nil => simp at h
  | cons a t ih =>
    have e : t3L (a :: t) = .int .i64 a.a :: .int .i64 a.b :: .int .i64 a.c :: t3L t := by simp [t3L]
    rw [e]
    match j, h with
    | 0, _ => rfl
    | 1, _ => rfl
    | 2, _ => rfl
    | j + 3, h =>
      simp only [List.length_cons] at h
      have := ih j (by omega)
      simp only [List.getElem?_cons_succ, this]
      unfold tripAt t3At
      rw [show (j + 3) % 3 = j % 3 by omega, show (j + 3) / 3 = j / 3 + 1 by omega]
      simp
theorem Trips.of_own {w : World} {base : Nat} {e : TypeId} {n c : Nat} {A : Option Addr} {l : List T3} (h : w.ownsRow base e 3 (.slice A n c) n (t3L l)) : Trips w w.heap.size A n (t3At l) :=
  Cells.of_own h _ fun j hj => by
    have h1 := t3L_get l j (by rw [← t3L_length]; exact hj)
    rw [List.getElem?_eq_getElem hj] at h1
    injection h1
theorem Trips.of_has {w : World} {b n : Nat} {cs : Array Value} {t : TypeId} {f : Nat → T3} (h : Has w b cs t) (hc : ∀ j, j < n * 3 → cs[j]? = some (tripAt f j)) : Trips w w.heap.size (some ⟨b, 0, none⟩) n f := fun _ =>
  ⟨_, rfl, h.lt, fun j hj => by rw [Go.WideShapes.add_plain, Nat.zero_add, h.cell]; exact hc j hj⟩
theorem Trips.news {w : World} {B : Nat} {ad : Addr} {l : List T3} (h : Trips w B (some ad) l.length (t3At l)) : ∀ j u, (t3L l)[j]? = some u → w.cell? (ad.add j) = some u := fun j u hu => by
  have hj : j < l.length * 3 := by
    rw [← t3L_length]
    rcases Nat.lt_or_ge j (t3L l).length with h | h
    · exact h
    · rw [List.getElem?_eq_none h] at hu; cases hu
  obtain ⟨ad', e, _, hc⟩ := Cells.get h hj
  injection e with e
  subst e
  rw [hc, ← hu, t3L_get l j hj]
end Go.Proofs.Ytlmgfcgakdanaaa
