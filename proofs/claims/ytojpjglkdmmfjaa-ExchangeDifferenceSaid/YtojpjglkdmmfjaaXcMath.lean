/- Package exchange in plain words: tables of rates. No program in sight. -/
import Derived.Test.YtojpjglkdmmfjaaTrips
import Derived.Test.YtojpjglkdmmfjaaScan
import Derived.Test.YtojpjglkdmmfjaaAmMath
namespace Go.Proofs.Ytojpjglkdmmfjaa.Xc

def hourP (h : Int) : Prop := 0 ≤ h ∧ h ≤ 876599
instance (n : Int) : Decidable (hourP n) := inferInstanceAs (Decidable (_ ∧ _))
def curP (c : Int) : Prop := 0 ≤ c ∧ c ≤ 15
instance (n : Int) : Decidable (curP n) := inferInstanceAs (Decidable (_ ∧ _))
/-- r may follow b -/
def aft (b r : T3) : Prop := if r.a = b.a then b.b < r.b else b.a < r.a
instance (b r : T3) : Decidable (aft b r) := inferInstanceAs (Decidable (ite _ _ _))
def cuP (r : T3) : Prop := 1 ≤ r.a ∧ r.a ≤ 15
instance (r : T3) : Decidable (cuP r) := inferInstanceAs (Decidable (_ ∧ _))
def puP (r : T3) : Prop := hourP r.b ∧ 1 ≤ r.c ∧ r.c ≤ 1000000000
instance (r : T3) : Decidable (puP r) := inferInstanceAs (Decidable (_ ∧ _))
/-- the faults of a table -/
def rc (f : Nat → T3) (i : Nat) : Int := if ¬ cuP (f i) then 15 else if ¬ puP (f i) then 1 else if 0 < i ∧ ¬ aft (f (i - 1)) (f i) then 13 else 0
def verr (n : Nat) (f : Nat → T3) : Int := if 200 < n then 4 else scan (rc f) n 0
/-- the rate of a currency at an hour, of the first i rows -/
def st (f : Nat → T3) (c h : Int) : Nat → Int × Int
  | 0 => (0, 15)
  | i + 1 => if (f i).a = c ∧ (f i).b ≤ h then ((f i).c, 0) else st f c h i
def at1 (n : Nat) (f : Nat → T3) (c h : Int) : Int × Int := if ¬ hourP h then (0, 1) else if c = 0 then (1000000, 0) else st f c h n
def at' (n : Nat) (f : Nat → T3) (c h : Int) : Int × Int := if verr n f ≠ 0 then (0, verr n f) else at1 n f c h

theorem verr_fine {n : Nat} {f : Nat → T3} (h : verr n f = 0) : n ≤ 200 ∧ (∀ i, i < n → cuP (f i) ∧ puP (f i)) ∧ ∀ i, 0 < i → i < n → aft (f (i - 1)) (f i) := by
  unfold verr at h
  by_cases c : 200 < n
  · rw [if_pos c] at h; omega
  · rw [if_neg c] at h
    have hz := scan_zero _ _ _ h
    have key : ∀ i, i < n → cuP (f i) ∧ puP (f i) ∧ ¬ (0 < i ∧ ¬ aft (f (i - 1)) (f i)) := fun i hi => by
      have := hz i (by omega) (by omega)
      unfold rc at this
      by_cases c1 : cuP (f i)
      · rw [if_neg (fun x => x c1)] at this
        by_cases c2 : puP (f i)
        · rw [if_neg (fun x => x c2)] at this
          by_cases c3 : 0 < i ∧ ¬ aft (f (i - 1)) (f i)
          · rw [if_pos c3] at this; omega
          · exact ⟨c1, c2, c3⟩
        · rw [if_pos c2] at this; omega
      · rw [if_pos c1] at this; omega
    exact ⟨by omega, fun i hi => ⟨(key i hi).1, (key i hi).2.1⟩, fun i h0 hi => Classical.not_not.1 fun c3 => (key i hi).2.2 ⟨h0, c3⟩⟩
theorem verr_of {n : Nat} {f : Nat → T3} (hn : n ≤ 200) (h1 : ∀ i, i < n → cuP (f i) ∧ puP (f i)) (h2 : ∀ i, 0 < i → i < n → aft (f (i - 1)) (f i)) : verr n f = 0 := by
  rw [verr, if_neg (by omega)]
  exact scan_fine _ _ _ fun i _ hi => by
    have := h1 i (by omega)
    rw [rc, if_neg (fun c => c this.1), if_neg (fun c => c this.2), if_neg (fun c => c.2 (h2 i c.1 (by omega)))]
theorem st_code (f : Nat → T3) (c h : Int) (n : Nat) : (st f c h n).2 = 0 ∨ st f c h n = (0, 15) := by
  induction n with
  | zero => exact .inr rfl
  | succ n ih =>
    rw [st]
    split
    · exact .inl rfl
    · exact ih
/-- what was found is a rate of the table -/
theorem st_fine {f : Nat → T3} {c h : Int} : ∀ n, (∀ i, i < n → puP (f i)) → (st f c h n).2 = 0 → 1 ≤ (st f c h n).1 ∧ (st f c h n).1 ≤ 1000000000 := fun n => by
  induction n with
  | zero => intro _ h; simp [st] at h
  | succ n ih =>
    intro hp
    rw [st]
    split
    · intro _
      have := hp n (by omega)
      exact ⟨this.2.1, this.2.2⟩
    · exact ih fun i hi => hp i (by omega)
/-- a currency that no table has -/
theorem st_none {f : Nat → T3} {c h : Int} : ∀ n, (∀ i, i < n → cuP (f i)) → ¬ curP c → st f c h n = (0, 15) := fun n => by
  induction n with
  | zero => intro _ _; rfl
  | succ n ih =>
    intro hp hc
    rw [st, if_neg]
    · exact ih (fun i hi => hp i (by omega)) hc
    · intro e
      have := hp n (by omega)
      unfold cuP at this
      unfold curP at hc
      omega
end Go.Proofs.Ytojpjglkdmmfjaa.Xc
