/- Stability over a table of one row. No program in sight. -/
import Derived.Test.YtigoeaidlgofoaaExS
import Derived.Test.YtigoeaidlgofoaaMd4
namespace Go.Proofs.Ytigoeaidlgofoaa.Ex

theorem md_ex (a num den k : Int) (h : a * num = k * den) (a0 : 0 ≤ a) (a1 : a ≤ 17592186044416) (n0 : 0 ≤ num) (n1 : num ≤ 17592186044416) (d0 : 1 ≤ den) (d1 : den ≤ 17592186044416) (k1 : k ≤ 17592186044416) : Am.md a num den 4 = (k, 0) := by
  have e : Am.hu (a * num) den = k := by
    have := Am.hu_add 0 k den (by omega)
    rw [Int.zero_add, Am.hu_zero _ (by omega), Int.zero_add] at this
    rw [h, this]
  rw [Am.md_hu a num den a0 a1 n0 n1 d0 d1, e, if_neg (by omega)]

theorem psum_congr (f g : Nat → Int) (m : Nat) (h : ∀ j, j < m → f j = g j) : psum f m = psum g m := by
  induction m with
  | zero => rfl
  | succ m ih => rw [psum, psum, ih fun j hj => h j (by omega), h m (by omega)]

theorem ierr_one (v : Int) (hv : idxP v) : ierr 1 (fun _ => 0) (fun _ => v) = 0 := by
  rw [ierr, if_neg (by omega)]
  refine scan_fine _ _ _ fun j _ hj => ?_
  rw [ic, if_neg (fun c => c ⟨by unfold hourP; omega, hv⟩), if_neg (by omega)]

theorem at_one (v h : Int) (hv : idxP v) (hh : hourP h) : at' 1 (fun _ => 0) (fun _ => v) h = (v, 0) := by
  rw [at', if_neg (by rw [ierr_one v hv]; simp), if_neg (fun c => c hh), st, if_pos hh.1]

theorem stab_one (base v : Int) (m : Nat) (p q k : Nat → Int) (hb : idxP base) (hv : idxP v) (hm : m ≤ 6) (hp : ∀ j, j < m → hourP (p j)) (hq : ∀ j, j < m → 0 ≤ q j ∧ q j ≤ 1073741824)
    (hk : ∀ j, j < m → q j * base = k j * v) (hk1 : ∀ j, j < m → 0 ≤ k j ∧ k j ≤ 1073741824) :
    stab base 1 (fun _ => 0) (fun _ => v) m p q = if psum k m = 0 then (0, 2) else Am.md 1000000 (psum q m) (psum k m) 4 := by
  have hd : ∀ j, j < m → dmd base 1 (fun _ => 0) (fun _ => v) p q j = (k j, 0) := fun j hj => by
    have h1 := hq j hj
    have h2 := hk1 j hj
    rw [dmd, at_one v _ hv (hp j hj)]
    exact md_ex _ _ _ _ (hk j hj) (by omega) (by omega) (by have := hb.1; omega) (by have := hb.2; omega) hv.1 (by have := hv.2; omega) (by omega)
  have hs : scan (sc base 1 (fun _ => 0) (fun _ => v) p q) m 0 = 0 := scan_fine _ _ _ fun j _ hj => by
    rw [sc, if_neg (fun c => c (hq j (by omega))), at_one v _ hv (hp j (by omega)), if_neg (by simp), hd j (by omega)]
  have hdf : defl base 1 (fun _ => 0) (fun _ => v) p q m = psum k m := psum_congr _ _ _ fun j hj => by rw [hd j hj]
  have hbd := psum_bound k 1073741824 m hk1
  rw [stab, if_neg (by rw [ierr_one v hv]; simp), if_neg (fun c => c hb), if_neg (by omega), if_neg (by rw [hs]; simp), hdf]
  by_cases hz : psum k m = 0
  · rw [if_pos hz, if_pos hz]
  · rw [if_neg hz, if_neg hz, if_neg (by omega)]

theorem steady1 (n : Int) (m : Nat) (p q : Nat → Int) (n0 : 1 ≤ n) (n1 : n ≤ 1000) (hm : m ≤ 6) (hp : ∀ j, j < m → hourP (p j)) (hq : ∀ j, j < m → 0 ≤ q j ∧ q j ≤ 1073741824) :
    stab n 1 (fun _ => 0) (fun _ => n) m p q = if psum q m = 0 then (0, 2) else (1000000, 0) := by
  have hbd := psum_bound q 1073741824 m hq
  rw [stab_one n n m p q q ⟨n0, by omega⟩ ⟨n0, by omega⟩ hm hp hq (fun _ _ => rfl) hq]
  by_cases hz : psum q m = 0
  · rw [if_pos hz, if_pos hz]
  · rw [if_neg hz, if_neg hz]
    exact md_ex _ _ _ _ rfl (by omega) (by omega) (by omega) (by omega) (by omega) (by omega) (by omega)

theorem steady2 (n t : Int) (n0 : 1 ≤ n) (n1 : n ≤ 1000) (t0 : 1 ≤ t) (t1 : t ≤ 1000) :
    stab n 1 (fun _ => 0) (fun _ => 2 * n) 1 (fun _ => 0) (fun _ => 2 * t) = (2000000, 0) := by
  rw [stab_one n (2 * n) 1 (fun _ => 0) (fun _ => 2 * t) (fun _ => t) ⟨n0, by omega⟩ ⟨by omega, by omega⟩ (by omega) (fun _ _ => by unfold hourP; omega) (fun _ _ => by omega)
    (fun _ _ => by rw [Int.mul_comm 2 t, Int.mul_assoc]) (fun _ _ => by omega)]
  simp only [psum, Int.zero_add]
  rw [if_neg (by omega)]
  exact md_ex _ _ _ _ (by omega) (by omega) (by omega) (by omega) (by omega) (by omega) (by omega) (by omega)
end Go.Proofs.Ytigoeaidlgofoaa.Ex
