/- The rate of a sliding scale in plain words. No program in sight. -/
import Derived.Test.YtedkdflecdggpaaCoMath
import Derived.Test.YtedkdflecdggpaaAmLaws2
namespace Go.Proofs.Ytedkdflecdggpaa.Co

/-- a part of a difference -/
theorem md_part (a num den : Int) (a0 : -17592186044416 ≤ a) (a1 : a ≤ 17592186044416) (n0 : 0 ≤ num) (n1 : num ≤ den) (d0 : 1 ≤ den) (d1 : den ≤ 17592186044416) :
    (Am.md a num den 4).2 = 0 ∧ (0 ≤ a → 0 ≤ (Am.md a num den 4).1 ∧ (Am.md a num den 4).1 ≤ a) ∧ (a ≤ 0 → a ≤ (Am.md a num den 4).1 ∧ (Am.md a num den 4).1 ≤ 0) := by
  have key : ∀ b : Int, 0 ≤ b → b ≤ 17592186044416 → Am.md b num den 4 = (Am.hu (b * num) den, 0) ∧ 0 ≤ Am.hu (b * num) den ∧ Am.hu (b * num) den ≤ b := fun b b0 b1 => by
    have hp := Am.hu_part b num den b0 n0 n1 d0
    exact ⟨by rw [Am.md_hu b num den b0 b1 n0 (by omega) d0 d1, if_neg (by omega)], hp.1, hp.2⟩
  by_cases h : 0 ≤ a
  · obtain ⟨e, h1, h2⟩ := key a h a1
    rw [e]
    exact ⟨rfl, fun _ => ⟨h1, h2⟩, fun h' => ⟨by simp only; omega, by simp only; omega⟩⟩
  · obtain ⟨e, h1, h2⟩ := key (-a) (by omega) (by omega)
    have ho := Am.md_opp a num den 4
    rw [show Am.opp 4 = 4 from rfl, e] at ho
    have e1 : (Am.md a num den 4).1 = -Am.hu (-a * num) den := by have := congrArg Prod.fst ho; simp only at this; omega
    have e2 : (Am.md a num den 4).2 = 0 := (congrArg Prod.snd ho).symm
    exact ⟨e2, fun h' => absurd h' h, fun _ => by rw [e1]; omega⟩

def stepP (x y : Int) : Prop := (0 ≤ x ∧ x ≤ 100000000) ∧ 0 ≤ y ∧ y ≤ 1000000
instance (x y : Int) : Decidable (stepP x y) := inferInstanceAs (Decidable (_ ∧ _))
/-- the faults of a scale: ratios f, rates g -/
def rc (f g : Nat → Int) (i : Nat) : Int := if ¬ stepP (f i) (g i) then 1 else if 0 < i ∧ f i ≤ f (i - 1) then 13 else 0
def rerr (n : Nat) (f g : Nat → Int) : Int := if n = 0 then 19 else if 8 < n then 4 else scan (rc f g) n 0
def seg (f g : Nat → Int) (r : Int) (i : Nat) : Int := g (i - 1) + (Am.md (g i - g (i - 1)) (r - f (i - 1)) (f i - f (i - 1)) 4).1
/-- the rate from step i on, k steps -/
def look (f g : Nat → Int) (r : Int) : Nat → Nat → Int
  | 0, i => g (i - 1)
  | k + 1, i => if r < f i then seg f g r i else look f g r k (i + 1)
def rate (n : Nat) (f g : Nat → Int) (r : Int) : Int × Int :=
  if rerr n f g ≠ 0 then (0, rerr n f g) else if ¬ (0 ≤ r ∧ r ≤ 100000000) then (0, 1) else if r ≤ f 0 then (g 0, 0) else (look f g r (n - 1) 1, 0)
theorem look_stop {f g : Nat → Int} {r : Int} {n i : Nat} (h : i < n) (hr : r < f i) : look f g r (n - i) i = seg f g r i := by
  obtain ⟨k, hk⟩ : ∃ k, n - i = k + 1 := ⟨n - i - 1, by omega⟩
  rw [hk, look, if_pos hr]
theorem look_go {f g : Nat → Int} {r : Int} {n i : Nat} (h : i < n) (hr : ¬ r < f i) : look f g r (n - i) i = look f g r (n - (i + 1)) (i + 1) := by
  obtain ⟨k, hk⟩ : ∃ k, n - i = k + 1 := ⟨n - i - 1, by omega⟩
  rw [hk, look, if_neg hr, show n - (i + 1) = k by omega]
theorem look_end (f g : Nat → Int) (r : Int) (n : Nat) : look f g r (n - n) n = g (n - 1) := by rw [Nat.sub_self]; rfl
theorem rerr_fine {n : Nat} {f g : Nat → Int} (h : rerr n f g = 0) : 1 ≤ n ∧ n ≤ 8 ∧ (∀ i, i < n → stepP (f i) (g i)) ∧ ∀ i, 0 < i → i < n → f (i - 1) < f i := by
  unfold rerr at h
  by_cases h1 : n = 0
  · rw [if_pos h1] at h; omega
  rw [if_neg h1] at h
  by_cases h2 : 8 < n
  · rw [if_pos h2] at h; omega
  rw [if_neg h2] at h
  have hz := scan_zero _ _ _ h
  refine ⟨by omega, by omega, fun i hi => ?_, fun i h0 hi => ?_⟩
  · have := hz i (by omega) (by omega)
    unfold rc at this
    by_cases c : stepP (f i) (g i)
    · exact c
    · rw [if_pos c] at this; omega
  · have := hz i (by omega) (by omega)
    unfold rc at this
    by_cases c : stepP (f i) (g i)
    · rw [if_neg (fun x => x c)] at this
      by_cases c2 : 0 < i ∧ f i ≤ f (i - 1)
      · rw [if_pos c2] at this; omega
      · omega
    · rw [if_pos c] at this; omega
end Go.Proofs.Ytedkdflecdggpaa.Co
