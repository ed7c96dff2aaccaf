/- The layers of a tower without gaps recover together what one layer over all of them recovers. No program in sight. -/
import Derived.Test.YtigoeaidlgofoaaExMath
namespace Go.Proofs.Ytigoeaidlgofoaa.Ex

theorem psum_nonneg (g : Nat → Int) (m : Nat) (h : ∀ j, j < m → 0 ≤ g j ∧ g j ≤ 1073741824) (hm : m ≤ 6) : 0 ≤ psum g m ∧ psum g m ≤ 6442450944 := by
  have := psum_bound g 1073741824 m h
  omega

theorem layer_plain (a r l : Int) (a0 : 0 ≤ a) (a1 : a ≤ 17592186044416) (r0 : 0 ≤ r) (r1 : r ≤ 17592186044416) (l0 : 0 ≤ l) (l1 : l ≤ 17592186044416) : layer a r l = min l (max 0 (a - r)) := by
  unfold layer lim
  omega

theorem join_terr (a first : Int) (m : Nat) (f g : Nat → Int) (hm : m ≤ 6) (f0 : 0 ≤ first) (f1 : first ≤ 1073741824) (a0 : 0 ≤ a) (a1 : a ≤ 8589934592) (hg : ∀ j, j < m → 0 ≤ g j ∧ g j ≤ 1073741824)
    (hf : ∀ j, j < m → f j = first + psum g j) : terr a m f g = 0 := by
  have hr : ∀ j, j < m → 0 ≤ f j ∧ f j ≤ 7516192768 := fun j hj => by
    have := psum_nonneg g j (fun i hi => hg i (by omega)) (by omega)
    rw [hf j hj]
    omega
  rw [terr, if_neg (by omega), if_neg (fun c => c (by unfold amt; omega)), if_neg]
  · refine scan_fine _ _ _ fun j _ hj => ?_
    rw [tc2, if_neg]
    rintro ⟨h1, h2⟩
    obtain ⟨i, rfl⟩ : ∃ i, j = i + 1 := ⟨j - 1, by omega⟩
    rw [Nat.add_sub_cancel, hf (i + 1) (by omega), hf i (by omega), psum] at h2
    omega
  · refine fun c => c (scan_fine _ _ _ fun j _ hj => ?_)
    have h1 := hr j (by omega)
    have h2 := hg j (by omega)
    rw [tc1, if_pos]
    unfold amt
    omega

theorem join_sum (a first : Int) (m : Nat) (f g : Nat → Int) (hm : m ≤ 6) (f0 : 0 ≤ first) (f1 : first ≤ 1073741824) (a0 : 0 ≤ a) (a1 : a ≤ 8589934592) (hg : ∀ j, j < m → 0 ≤ g j ∧ g j ≤ 1073741824)
    (hf : ∀ j, j < m → f j = first + psum g j) : psum (fun j => layer a (f j) (g j)) m = layer a first (psum g m) := by
  have hall : ∀ k, k ≤ m → psum (fun j => layer a (f j) (g j)) k = min (psum g k) (max 0 (a - first)) := fun k => by
    induction k with
    | zero => intro _; simp only [psum]; omega
    | succ k ih =>
      intro hk
      have h1 := psum_nonneg g k (fun i hi => hg i (by omega)) (by omega)
      have h2 := hg k (by omega)
      have h3 := hf k (by omega)
      rw [psum, ih (by omega), psum, layer_plain a (f k) (g k) a0 (by omega) (by omega) (by omega) h2.1 (by omega), h3]
      omega
  have h1 := psum_nonneg g m hg hm
  rw [hall m (Nat.le_refl _), layer_plain a first (psum g m) a0 (by omega) f0 (by omega) h1.1 (by omega)]
end Go.Proofs.Ytigoeaidlgofoaa.Ex
