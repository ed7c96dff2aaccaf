/- The sum of a list of adjustments in plain words: nine numbers each. No program in sight. -/
import Derived.Test.YtageedgbkaknnaaScan
namespace Go.Proofs.Ytageedgbkaknnaa.Ad

def amt (x : Int) : Prop := 0 ≤ x ∧ x ≤ 17592186044416
instance (n : Int) : Decidable (amt n) := inferInstanceAs (Decidable (_ ∧ _))
def most (x : Int) : Prop := x ≤ 17592186044416
instance (n : Int) : Decidable (most n) := inferInstanceAs (Decidable (_ ≤ _))
/-- the sum of field k of the first j rows -/
def tot (f : Nat → Int) (k : Nat) : Nat → Int
  | 0 => 0
  | j + 1 => tot f k j + f (j * 9 + k)
/-- the sum of field k of the first j rows, and of row j too if k is one of its first q fields -/
def fpart (f : Nat → Int) (j q k : Nat) : Int := if k < q then tot f k (j + 1) else tot f k j
def serr (n : Nat) (f : Nat → Int) : Int :=
  if 64 < n then 4 else if ∀ p, p < n * 9 → amt (f p) then (if scan (fun k => if most (tot f k n) then 0 else 3) 9 0 = 0 then 0 else 3) else 1
def sres (n : Nat) (f : Nat → Int) (k : Nat) : Int := if serr n f = 0 then tot f k n else 0

section
variable {n j q k : Nat} {f : Nat → Int}
theorem tot_bound (h : ∀ p, p < j * 9 → amt (f p)) (hk : k < 9) : 0 ≤ tot f k j ∧ tot f k j ≤ j * 17592186044416 := by
  induction j with
  | zero => simp [tot]
  | succ j ih =>
    have h1 := ih fun p hp => h p (by omega)
    have h2 := h (j * 9 + k) (by omega)
    unfold amt at h2
    rw [tot]
    omega
theorem fpart_zero : fpart f j 0 k = tot f k j := if_neg (by omega)
theorem fpart_nine (hk : k < 9) : fpart f j 9 k = tot f k (j + 1) := if_pos hk
theorem fpart_old (hk : q ≤ k) : fpart f j q k = tot f k j := if_neg (by omega)
theorem fpart_step : fpart f j (q + 1) k = if k = q then fpart f j q q + f (j * 9 + q) else fpart f j q k := by
  unfold fpart
  by_cases e : k = q
  · subst e
    rw [if_pos (by omega), if_pos rfl, if_neg (by omega)]
    rfl
  · rw [if_neg e]
    by_cases c : k < q
    · rw [if_pos c, if_pos (by omega)]
    · rw [if_neg c, if_neg (by omega)]
theorem fpart_bound (h : ∀ p, p < j * 9 + q → amt (f p)) (hj : j < 64) (hk : k < 9) : 0 ≤ fpart f j q k ∧ fpart f j q k ≤ 1125899906842624 := by
  unfold fpart
  have h1 := tot_bound (f := f) (j := j) (k := k) (fun p hp => h p (by omega)) hk
  by_cases c : k < q
  · rw [if_pos c, tot]
    have h2 := h (j * 9 + k) (by omega)
    unfold amt at h2
    omega
  · rw [if_neg c]
    omega
theorem serr_many (h : 64 < n) : serr n f = 4 := if_pos h
theorem serr_bad (h : n ≤ 64) {p : Nat} (hp : p < n * 9) (hf : ¬ amt (f p)) : serr n f = 1 := by
  rw [serr, if_neg (by omega), if_neg fun c => hf (c p hp)]
theorem serr_over (h : n ≤ 64) (hf : ∀ p, p < n * 9 → amt (f p)) (hk : k < 9) (ht : 17592186044416 < tot f k n) : serr n f = 3 := by
  rw [serr, if_neg (by omega), if_pos hf, if_neg fun c => by
    have h1 := scan_zero _ 9 0 c k (by omega) (by omega)
    rw [if_neg (by unfold most; omega)] at h1
    omega]
theorem serr_ok (h : n ≤ 64) (hf : ∀ p, p < n * 9 → amt (f p)) (ht : ∀ k, k < 9 → tot f k n ≤ 17592186044416) : serr n f = 0 := by
  rw [serr, if_neg (by omega), if_pos hf]
  exact if_pos (scan_fine _ 9 0 fun k _ hk => if_pos (ht k (by omega)))
theorem sres_bad (h : serr n f ≠ 0) (k : Nat) : sres n f k = 0 := if_neg h
theorem sres_ok (h : serr n f = 0) (k : Nat) : sres n f k = tot f k n := if_pos h
end
end Go.Proofs.Ytageedgbkaknnaa.Ad
