/- Package excess in plain words. No program in sight. -/
import Derived.Test.YtlmgfcgakdanaaaAmMath
import Derived.Test.YtlmgfcgakdanaaaScan
namespace Go.Proofs.Ytlmgfcgakdanaaa.Ex

def lim (n : Int) : Int := max 0 (min n 17592186044416)
def layer (a r l : Int) : Int := min (lim l) (max 0 (lim a - lim r))
theorem lim_bound (n : Int) : 0 ≤ lim n ∧ lim n ≤ 17592186044416 := by unfold lim; omega
theorem layer_bound (a r l : Int) : 0 ≤ layer a r l ∧ layer a r l ≤ 17592186044416 := by
  have h1 := lim_bound a
  have h2 := lim_bound r
  have h3 := lim_bound l
  unfold layer
  omega

def amt (n : Int) : Prop := 0 ≤ n ∧ n ≤ 17592186044416
instance (n : Int) : Decidable (amt n) := inferInstanceAs (Decidable (_ ∧ _))

/-- the faults of a tower -/
def tc1 (r l : Nat → Int) (i : Nat) : Int := if amt (r i) ∧ amt (l i) then 0 else 1
def tc2 (r l : Nat → Int) (i : Nat) : Int := if 0 < i ∧ r i < r (i - 1) + l (i - 1) then 13 else 0
def terr (a : Int) (n : Nat) (r l : Nat → Int) : Int :=
  if 64 < n then 4 else if ¬ amt a then 1 else if scan (tc1 r l) n 0 ≠ 0 then 1 else scan (tc2 r l) n 0

def hourP (h : Int) : Prop := 0 ≤ h ∧ h ≤ 876599
instance (n : Int) : Decidable (hourP n) := inferInstanceAs (Decidable (_ ∧ _))
def idxP (h : Int) : Prop := 1 ≤ h ∧ h ≤ 1000000000
instance (n : Int) : Decidable (idxP n) := inferInstanceAs (Decidable (_ ∧ _))

/-- the faults of a table -/
def ic (f g : Nat → Int) (i : Nat) : Int := if ¬ (hourP (f i) ∧ idxP (g i)) then 1 else if 0 < i ∧ f i ≤ f (i - 1) then 13 else 0
def ierr (n : Nat) (f g : Nat → Int) : Int := if 100 < n then 4 else scan (ic f g) n 0

/-- the value at an hour, of the first i rows -/
def st (f g : Nat → Int) (h : Int) : Nat → Int × Int
  | 0 => (0, 19)
  | i + 1 => if f i ≤ h then (g i, 0) else st f g h i
def at' (n : Nat) (f g : Nat → Int) (h : Int) : Int × Int :=
  if ierr n f g ≠ 0 then (0, ierr n f g) else if ¬ hourP h then (0, 1) else st f g h n

theorem st_cases (f g : Nat → Int) (h : Int) (i : Nat) (hg : ∀ j, j < i → idxP (g j)) : st f g h i = (0, 19) ∨ idxP (st f g h i).1 ∧ (st f g h i).2 = 0 := by
  induction i with
  | zero => exact .inl rfl
  | succ i ih =>
    rw [st]
    split
    · exact .inr ⟨hg i (by omega), rfl⟩
    · exact ih fun j hj => hg j (by omega)

theorem ierr_fine {n : Nat} {f g : Nat → Int} (h : ierr n f g = 0) : n ≤ 100 ∧ ∀ j, j < n → hourP (f j) ∧ idxP (g j) := by
  unfold ierr at h
  split at h
  · omega
  · refine ⟨by omega, fun j hj => ?_⟩
    have := scan_zero _ _ _ h j (by omega) (by omega)
    unfold ic at this
    by_cases c : hourP (f j) ∧ idxP (g j)
    · exact c
    · rw [if_pos c] at this; omega

theorem at_cases (n : Nat) (f g : Nat → Int) (h : Int) : (at' n f g h).1 = 0 ∧ (at' n f g h).2 ≠ 0 ∨ idxP (at' n f g h).1 ∧ (at' n f g h).2 = 0 := by
  unfold at'
  by_cases c : ierr n f g = 0
  · rw [if_neg (by simp [c])]
    split
    · exact .inl ⟨rfl, by simp⟩
    · rcases st_cases f g h n (fun j hj => ((ierr_fine c).2 j hj).2) with e | e
      · rw [e]; exact .inl ⟨rfl, by simp⟩
      · exact .inr e
  · rw [if_pos c]; exact .inl ⟨rfl, c⟩

def psum (f : Nat → Int) : Nat → Int
  | 0 => 0
  | i + 1 => psum f i + f i
theorem psum_bound (f : Nat → Int) (M : Int) (i : Nat) (h : ∀ j, j < i → 0 ≤ f j ∧ f j ≤ M) : 0 ≤ psum f i ∧ psum f i ≤ M * i := by
  induction i with
  | zero => simp [psum]
  | succ i ih =>
    have h1 := ih fun j hj => h j (by omega)
    have h2 := h i (by omega)
    rw [psum, show M * ((i + 1 : Nat) : Int) = M * i + M by rw [Int.natCast_succ, Int.mul_add, Int.mul_one]]
    omega

/-- the faults of payments: hours p, amounts q -/
def dmd (base : Int) (n : Nat) (f g p q : Nat → Int) (i : Nat) : Int × Int := Am.md (q i) base (at' n f g (p i)).1 4
def sc (base : Int) (n : Nat) (f g p q : Nat → Int) (i : Nat) : Int :=
  if ¬ (0 ≤ q i ∧ q i ≤ 1073741824) then 1 else if (at' n f g (p i)).2 ≠ 0 then (at' n f g (p i)).2 else (dmd base n f g p q i).2
def defl (base : Int) (n : Nat) (f g p q : Nat → Int) (i : Nat) : Int := psum (fun j => (dmd base n f g p q j).1) i
def stab (base : Int) (n : Nat) (f g : Nat → Int) (m : Nat) (p q : Nat → Int) : Int × Int :=
  if ierr n f g ≠ 0 then (0, ierr n f g) else if ¬ idxP base then (0, 1) else if 64 < m then (0, 4)
  else if scan (sc base n f g p q) m 0 ≠ 0 then (0, scan (sc base n f g p q) m 0)
  else if defl base n f g p q m = 0 then (0, 2) else if 17592186044416 < defl base n f g p q m then (0, 3)
  else Am.md 1000000 (psum q m) (defl base n f g p q m) 4
end Go.Proofs.Ytlmgfcgakdanaaa.Ex
