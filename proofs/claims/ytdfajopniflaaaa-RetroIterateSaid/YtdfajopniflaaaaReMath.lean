/- Package retro in plain words. No program in sight. -/
import Derived.Test.YtdfajopniflaaaaAmMath
import Derived.Test.YtdfajopniflaaaaScan
namespace Go.Proofs.Ytdfajopniflaaaa.Re

/-- a retrocession -/
structure Rt where
  fr : Int
  ds : Int
  sh : Int
  re : Int
  li : Int

def proper (r : Rt) : Prop := 1 ≤ r.sh ∧ r.sh ≤ 1000000 ∧ 0 ≤ r.re ∧ r.re ≤ 1073741824 ∧ 1 ≤ r.li ∧ r.li ≤ 1073741824
instance (r : Rt) : Decidable (proper r) := inferInstanceAs (Decidable (_ ∧ _))

/-- what a retrocession takes over -/
def ced (r : Rt) (x : Int) : Int := if proper r ∧ 0 ≤ x ∧ x ≤ 17592186044416 ∧ r.re < x then min ((x - r.re) * r.sh / 1000000) r.li else 0

theorem floor_share (a num : Int) (a0 : 0 ≤ a) (a1 : a ≤ 17592186044416) (n0 : 0 ≤ num) (n1 : num ≤ 1000000) : Am.md a num 1000000 2 = (a * num / 1000000, 0) ∧ 0 ≤ a * num / 1000000 ∧ a * num / 1000000 ≤ a := by
  have hp : 0 ≤ a * num := Int.mul_nonneg a0 n0
  have hle : a * num ≤ a * 1000000 := Int.mul_le_mul_of_nonneg_left n1 a0
  have h1 : 0 ≤ a * num / 1000000 := by omega
  have h2 : a * num / 1000000 ≤ a := by omega
  have hm : Am.mag a num 1000000 2 = a * num / 1000000 := by
    have e : Am.absI a = a := by unfold Am.absI; split <;> omega
    have ha : Am.awayB (a * num / 1000000) (a * num % 1000000) 1000000 (decide (a < 0)) 2 = false := by
      unfold Am.awayB
      split
      · rfl
      · rw [if_pos rfl]; simp; omega
    rw [Am.mag, e, ha]
    simp
  refine ⟨?_, h1, h2⟩
  rw [Am.md_ok (by omega) ⟨(Am.validB_iff _).2 ⟨by omega, a1⟩, (Am.factorB_iff _).2 ⟨n0, by omega⟩, (Am.factorB_iff _).2 ⟨by omega, by omega⟩⟩ (by omega) (by rw [hm]; omega), if_neg (by omega), hm]

theorem ced_bound (r : Rt) (x : Int) : 0 ≤ ced r x ∧ ced r x ≤ 1073741824 := by
  unfold ced
  split
  · next h =>
    obtain ⟨⟨h1, h2, h3, h4, h5, h6⟩, h7, h8, h9⟩ := h
    have : 0 ≤ (x - r.re) * r.sh := Int.mul_nonneg (by omega) (by omega)
    omega
  · omega

/-- b, to which the numbers v are added at the places s -/
def acc (b : Nat → Int) (s : Nat → Nat) (v : Nat → Int) : Nat → Nat → Int
  | 0, i => b i
  | k + 1, i => if i = s k then acc b s v k i + v k else acc b s v k i

theorem acc_hit {b : Nat → Int} {s : Nat → Nat} {v : Nat → Int} (k i : Nat) (h : i = s k) : acc b s v (k + 1) i = acc b s v k i + v k := by rw [acc, if_pos h]
theorem acc_miss {b : Nat → Int} {s : Nat → Nat} {v : Nat → Int} (k i : Nat) (h : i ≠ s k) : acc b s v (k + 1) i = acc b s v k i := by rw [acc, if_neg h]
theorem acc_bound (b : Nat → Int) (s : Nat → Nat) (v : Nat → Int) (V : Int) (k i : Nat) (h : ∀ j, j < k → 0 ≤ v j ∧ v j ≤ V) (hV : 0 ≤ V) : b i ≤ acc b s v k i ∧ acc b s v k i ≤ b i + V * k := by
  induction k with
  | zero => simp [acc]
  | succ k ih =>
    have h1 := ih fun j hj => h j (by omega)
    have h2 := h k (by omega)
    rw [acc, show V * ((k + 1 : Nat) : Int) = V * k + V by rw [Int.natCast_succ, Int.mul_add, Int.mul_one]]
    split <;> omega
theorem acc_neg (b : Nat → Int) (s : Nat → Nat) (v : Nat → Int) (V : Int) (k i : Nat) (h : ∀ j, j < k → -V ≤ v j ∧ v j ≤ 0) (hV : 0 ≤ V) : b i - V * k ≤ acc b s v k i ∧ acc b s v k i ≤ b i := by
  induction k with
  | zero => simp [acc]
  | succ k ih =>
    have h1 := ih fun j hj => h j (by omega)
    have h2 := h k (by omega)
    rw [acc, show V * ((k + 1 : Nat) : Int) = V * k + V by rw [Int.natCast_succ, Int.mul_add, Int.mul_one]]
    split <;> omega
theorem acc_mono_step (b : Nat → Int) (s : Nat → Nat) (v : Nat → Int) (k i : Nat) (h : 0 ≤ v k) : acc b s v k i ≤ acc b s v (k + 1) i := by
  rw [acc]; split <;> omega
theorem acc_mono (b : Nat → Int) (s : Nat → Nat) (v : Nat → Int) (i k m : Nat) (hkm : k ≤ m) (h : ∀ j, j < m → 0 ≤ v j) : acc b s v k i ≤ acc b s v m i := by
  induction m with
  | zero => have : k = 0 := by omega
            subst this; exact Int.le_refl _
  | succ m ih =>
    by_cases e : k = m + 1
    · subst e; exact Int.le_refl _
    · exact Int.le_trans (ih (by omega) fun j hj => h j (by omega)) (acc_mono_step b s v m i (h m (by omega)))
theorem acc_congr {b b' : Nat → Int} {s s' : Nat → Nat} {v v' : Nat → Int} (k i : Nat) (hb : b i = b' i) (h : ∀ j, j < k → s j = s' j ∧ v j = v' j) : acc b s v k i = acc b' s' v' k i := by
  induction k with
  | zero => exact hb
  | succ k ih =>
    rw [acc, acc, (h k (by omega)).1, (h k (by omega)).2, ih fun j hj => h j (by omega)]

def frN (R : Nat → Rt) (j : Nat) : Nat := (R j).fr.toNat
def toN (R : Nat → Rt) (j : Nat) : Nat := (R j).ds.toNat
def shs (R : Nat → Rt) : Nat → Nat → Int := acc (fun _ => 0) (frN R) (fun j => (R j).sh)

def oc (o : Nat → Int) (i : Nat) : Int := if 0 ≤ o i ∧ o i ≤ 1073741824 then 0 else 1
def rc (n : Nat) (R : Nat → Rt) (i : Nat) : Int :=
  if ¬ (0 ≤ (R i).fr ∧ (R i).fr < n ∧ 0 ≤ (R i).ds ∧ (R i).ds < n) then 7 else if (R i).fr = (R i).ds then 8 else if ¬ proper (R i) then 1 else 0
def sc (R : Nat → Rt) (k : Nat) : Int := if 1000000 < shs R (k + 1) (frN R k) then 14 else 0
def sr (R : Nat → Rt) (m i : Nat) : Int := if 1000000 < shs R m i then 14 else 0

/-- the fault of a market -/
def verr (n : Nat) (o : Nat → Int) (m : Nat) (R : Nat → Rt) : Int :=
  if n = 0 ∨ 16 < n ∨ 24 < m then 4 else if scan (oc o) n 0 ≠ 0 then 1 else if scan (rc n R) m 0 ≠ 0 then scan (rc n R) m 0 else scan (sc R) m 0

theorem rc_fine {n : Nat} {R : Nat → Rt} {i : Nat} (h : rc n R i = 0) : (0 ≤ (R i).fr ∧ (R i).fr < n ∧ 0 ≤ (R i).ds ∧ (R i).ds < n) ∧ (R i).fr ≠ (R i).ds ∧ proper (R i) := by
  unfold rc at h
  by_cases h1 : 0 ≤ (R i).fr ∧ (R i).fr < n ∧ 0 ≤ (R i).ds ∧ (R i).ds < n
  · rw [if_neg (fun c => c h1)] at h
    by_cases h2 : (R i).fr = (R i).ds
    · rw [if_pos h2] at h; omega
    · rw [if_neg h2] at h
      by_cases h3 : proper (R i)
      · exact ⟨h1, h2, h3⟩
      · rw [if_pos h3] at h; omega
  · rw [if_pos h1] at h; omega

theorem shs_found (R : Nat → Rt) (m i : Nat) (h : 1000000 < shs R m i) : ∃ k, k < m ∧ frN R k = i ∧ 1000000 < shs R (k + 1) i := by
  induction m with
  | zero => simp [shs, acc] at h
  | succ m ih =>
    by_cases e : i = frN R m
    · exact ⟨m, by omega, e.symm, h⟩
    · rw [shs, acc_miss _ _ e] at h
      obtain ⟨k, h1, h2, h3⟩ := ih h
      exact ⟨k, by omega, h2, h3⟩

theorem scan_two (c : Nat → Int) (k i : Nat) (h : ∀ j, c j = 0 ∨ c j = 14) : scan c k i = 0 ∨ scan c k i = 14 := by
  induction k generalizing i with
  | zero => exact .inl rfl
  | succ k ih =>
    rw [scan]
    split
    · exact ih (i + 1)
    · next hc => exact .inr ((h i).resolve_left hc)

theorem shares_same (n m : Nat) (R : Nat → Rt) (h : scan (rc n R) m 0 = 0) : scan (sr R m) n 0 = scan (sc R) m 0 := by
  have hf : ∀ j, j < m → (0 ≤ (R j).fr ∧ (R j).fr < n ∧ 0 ≤ (R j).ds ∧ (R j).ds < n) ∧ (R j).fr ≠ (R j).ds ∧ proper (R j) := fun j hj => rc_fine (scan_zero _ _ _ h j (by omega) (by omega))
  have e1 := scan_two (sr R m) n 0 fun j => by unfold sr; split <;> simp
  have e2 := scan_two (sc R) m 0 fun j => by unfold sc; split <;> simp
  rcases e1 with e1 | e1 <;> rcases e2 with e2 | e2
  · rw [e1, e2]
  · exfalso
    have : scan (sc R) m 0 = 0 := scan_fine _ _ _ fun j _ hj => by
      unfold sc
      rw [if_neg]
      intro c
      have hj' : j < m := by omega
      have h0 := scan_zero _ _ _ e1 (frN R j) (by omega) (by have := (hf j hj').1; unfold frN; omega)
      unfold sr at h0
      have h1 : shs R (j + 1) (frN R j) ≤ shs R m (frN R j) := acc_mono _ _ _ _ _ _ (by omega) fun q hq => by have := (hf q hq).2.2.1; omega
      rw [if_pos (by omega)] at h0
      omega
    omega
  · exfalso
    have : scan (sr R m) n 0 = 0 := scan_fine _ _ _ fun i _ hi => by
      unfold sr
      rw [if_neg]
      intro c
      obtain ⟨k, h1, h2, h3⟩ := shs_found R m i c
      have h0 := scan_zero _ _ _ e2 k (by omega) (by omega)
      unfold sc at h0
      rw [h2, if_pos h3] at h0
      omega
    omega
  · rw [e1, e2]

theorem verr_fine {n : Nat} {o : Nat → Int} {m : Nat} {R : Nat → Rt} (h : verr n o m R = 0) : 1 ≤ n ∧ n ≤ 16 ∧ m ≤ 24 ∧ (∀ i, i < n → 0 ≤ o i ∧ o i ≤ 1073741824) ∧
    ∀ j, j < m → (0 ≤ (R j).fr ∧ (R j).fr < n ∧ 0 ≤ (R j).ds ∧ (R j).ds < n) ∧ (R j).fr ≠ (R j).ds ∧ proper (R j) := by
  unfold verr at h
  by_cases h1 : n = 0 ∨ 16 < n ∨ 24 < m
  · rw [if_pos h1] at h; omega
  rw [if_neg h1] at h
  by_cases h2 : scan (oc o) n 0 = 0
  · rw [if_neg (by rw [h2]; simp)] at h
    by_cases h3 : scan (rc n R) m 0 = 0
    · refine ⟨by omega, by omega, by omega, fun i hi => ?_, fun j hj => rc_fine (scan_zero _ _ _ h3 j (by omega) (by omega))⟩
      have := scan_zero _ _ _ h2 i (by omega) (by omega)
      unfold oc at this
      by_cases c : 0 ≤ o i ∧ o i ≤ 1073741824
      · exact c
      · rw [if_neg c] at this; omega
    · rw [if_pos h3] at h; exact absurd h h3
  · rw [if_pos h2] at h; omega

def xc (x : Nat → Int) (i : Nat) : Int := if 0 ≤ x i ∧ x i ≤ 17592186044416 then 0 else 1

/-- the fault of a list of losses -/
def lerr (n : Nat) (o : Nat → Int) (m : Nat) (R : Nat → Rt) (nx : Nat) (x : Nat → Int) : Int :=
  if verr n o m R ≠ 0 then verr n o m R else if nx ≠ n then 4 else scan (xc x) nx 0

def ceds (R : Nat → Rt) (x : Nat → Int) (j : Nat) : Int := ced (R j) (x (frN R j))
/-- one step -/
def step (o : Nat → Int) (m : Nat) (R : Nat → Rt) (x : Nat → Int) : Nat → Int := acc o (toN R) (ceds R x) m
def net (m : Nat) (R : Nat → Rt) (x : Nat → Int) : Nat → Int := acc x (frN R) (fun j => -ceds R x j) m
def top (o : Nat → Int) (m : Nat) (R : Nat → Rt) : Nat → Int := acc o (toN R) (fun j => (R j).li) m

theorem lerr_fine {n : Nat} {o : Nat → Int} {m : Nat} {R : Nat → Rt} {nx : Nat} {x : Nat → Int} (h : lerr n o m R nx x = 0) : verr n o m R = 0 ∧ nx = n ∧ ∀ i, i < n → 0 ≤ x i ∧ x i ≤ 17592186044416 := by
  unfold lerr at h
  by_cases h1 : verr n o m R = 0
  · rw [if_neg (by rw [h1]; simp)] at h
    by_cases h2 : nx = n
    · rw [if_neg (by rw [h2]; simp)] at h
      subst h2
      refine ⟨h1, rfl, fun i hi => ?_⟩
      have := scan_zero _ _ _ h i (by omega) (by omega)
      unfold xc at this
      by_cases c : 0 ≤ x i ∧ x i ≤ 17592186044416
      · exact c
      · rw [if_neg c] at this; omega
    · rw [if_pos h2] at h; omega
  · rw [if_pos h1] at h; exact absurd h h1
theorem lerr_ok {n : Nat} {o : Nat → Int} {m : Nat} {R : Nat → Rt} {x : Nat → Int} (h : verr n o m R = 0) (hx : ∀ i, i < n → 0 ≤ x i ∧ x i ≤ 17592186044416) : lerr n o m R n x = 0 := by
  rw [lerr, if_neg (by rw [h]; simp), if_neg (by simp)]
  exact scan_fine _ _ _ fun j _ hj => if_pos (hx j (by omega))

theorem ceds_bound (R : Nat → Rt) (x : Nat → Int) (j : Nat) : 0 ≤ ceds R x j ∧ ceds R x j ≤ 1073741824 := ced_bound _ _
theorem step_bound (o : Nat → Int) (m : Nat) (R : Nat → Rt) (x : Nat → Int) (i : Nat) : o i ≤ step o m R x i ∧ step o m R x i ≤ o i + 1073741824 * m :=
  acc_bound _ _ _ _ _ _ (fun j _ => ceds_bound R x j) (by omega)

/-- the iteration from a list on, at most f calls more, of which the next is number c -/
def sett (F : (Nat → Int) → Nat → Int) (n : Nat) : Nat → Nat → (Nat → Int) → Option ((Nat → Int) × Nat)
  | 0, _, _ => none
  | f + 1, c, x => if ∀ i, i < n → F x i = x i then some (F x, c) else sett F n f (c + 1) (F x)
end Go.Proofs.Ytdfajopniflaaaa.Re
