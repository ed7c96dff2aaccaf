/- Retrocessions to later companies: a row of retrocessions is rewritten. -/
import Derived.Test.YtdfajopniflaaaaReArgs
namespace Go.Proofs.Ytdfajopniflaaaa
open Go.RowKit
set_option linter.unusedVariables false

/-- a retrocession to a later company, of a small share -/
def fwd (r : Re.Rt) : Re.Rt := ⟨min r.fr r.ds, max r.fr r.ds, 1 + r.sh / 8, r.re, r.li⟩
/-- the list after k rounds -/
def mixR (R : Nat → Re.Rt) (k : Nat) (j : Nat) : Re.Rt := if j < k then fwd (R j) else R j

theorem retL_put (m : Nat) (R : Nat → Re.Rt) (k q : Nat) (hq : q < 5) (hk : k < m) (z : Int) (r : Re.Rt) (h : ∀ j, j < 5 → r.at' j = if j = q then z else (R k).at' j) : (retL m R).set (k * 5 + q) (.int .i64 z) = retL m (fun j => if j = k then r else R j) := by
  apply List.ext_getElem?
  intro j
  by_cases hj : j < m * 5
  · rw [retL_get _ _ _ hj]
    by_cases e : k * 5 + q = j
    · subst e
      rw [List.getElem?_set_self (by rw [retL_length]; exact hj), if_pos (by omega), show (k * 5 + q) % 5 = q by omega, h q hq, if_pos rfl]
    · rw [List.getElem?_set_ne e, retL_get _ _ _ hj]
      by_cases e2 : j / 5 = k
      · rw [if_pos e2, h (j % 5) (by omega), if_neg (by omega), e2]
      · rw [if_neg e2]
  · rw [List.getElem?_eq_none (by simp [retL]; omega), List.getElem?_eq_none (by simp [retL]; omega)]

/-- rows of the call's own: one of retrocessions is rewritten -/
theorem OwnR.put {w : World} {base g m c : Nat} {R : Nat → Re.Rt} (h : OwnR w base (.slice (some ⟨g, 0, none⟩) m c) m R) (k q : Nat) (hq : q < 5) (hk : k < m) (z : Int) (r : Re.Rt) (hr : ∀ j, j < 5 → r.at' j = if j = q then z else (R k).at' j) :
    OwnR (w.setCell ⟨g, k * 5 + q, none⟩ (.int .i64 z)) base (.slice (some ⟨g, 0, none⟩) m c) m (fun j => if j = k then r else R j) := by
  have := (World.ownsRow.stored h (k * 5 + q) (.int .i64 z)).1
  rw [retL_put m R k q hq hk z r hr] at this
  exact this
theorem OwnR.cellAt {w : World} {base g m c : Nat} {R : Nat → Re.Rt} (h : OwnR w base (.slice (some ⟨g, 0, none⟩) m c) m R) (k q : Nat) (hq : q < 5) (hk : k < m) : w.cell? ⟨g, k * 5 + q, none⟩ = some (.int .i64 ((R k).at' q)) ∧ w.frozen? ⟨g, k * 5 + q, none⟩ = false := by
  have h1 := World.ownsRow.cellAt h (k * 5 + q) (by omega)
  rw [retL_get _ _ _ (by omega), show (k * 5 + q) / 5 = k by omega, show (k * 5 + q) % 5 = q by omega] at h1
  exact ⟨h1, World.ownsRow.frozenAt h _⟩
theorem OwnR.drew {w : World} {base m : Nat} {v : Value} {R : Nat → Re.Rt} (h : OwnR w base v m R) : OwnR w.drew base v m R := World.ownsRow.drew h
theorem OwnR.drewN {w : World} {base m : Nat} {v : Value} {R : Nat → Re.Rt} (h : OwnR w base v m R) (q : Nat) : OwnR (w.drewN q) base v m R := own_of_blocks h fun _ _ => rfl
theorem OwnR.congr {w : World} {base m : Nat} {v : Value} {R S : Nat → Re.Rt} (h : OwnR w base v m R) (e : ∀ j, j < m → R j = S j) : OwnR w base v m S := by
  unfold OwnR at h ⊢
  have : retL m R = retL m S := by
    unfold retL
    apply List.map_congr_left
    intro i hi
    rw [e (i / 5) (by have := List.mem_range.1 hi; omega)]
  rwa [← this]
theorem mixR_next (R : Nat → Re.Rt) (k j : Nat) : (if j = k then fwd (R k) else mixR R k j) = mixR R (k + 1) j := by
  unfold mixR
  by_cases e : j = k
  · subst e; rw [if_pos rfl, if_pos (by omega)]
  · rw [if_neg e]
    by_cases h : j < k
    · rw [if_pos h, if_pos (by omega)]
    · rw [if_neg h, if_neg (by omega)]
end Go.Proofs.Ytdfajopniflaaaa
