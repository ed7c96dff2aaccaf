/- What is paid, as a chain of steps, each of them monotone. No program in sight. -/
import Derived.Test.YtageedgbkaknnaaAdjMath
import Derived.Test.YtageedgbkaknnaaMd4
import Derived.Test.YtageedgbkaknnaaRAdj
namespace Go.Proofs.Ytageedgbkaknnaa.Ad

def R1 (a : Bool) (val sum g : Int) : Int := if a = false ∨ val ≤ sum then g else Am.hu (g * sum) val
def R2 (f r : Int) : Int := if f ≤ r then r else 0
def R3 (d r : Int) : Int := r - min r d
def R4 (c r : Int) : Int := r - Am.hu (r * c) 1000000
def R5 (l r : Int) : Int := if l = -1 then r else min r l

/-- a decision of the verdict Insured and an item, both accepted -/
structure Fine (D : Dec) (X : Itm) : Prop where
  v : D.v = 4
  l0 : -1 ≤ D.l
  l1 : D.l ≤ 1073741824
  d0 : 0 ≤ D.d
  d1 : D.d ≤ 1073741824
  f0 : 0 ≤ D.f
  f1 : D.f ≤ 1073741824
  c0 : 0 ≤ D.c
  c1 : D.c ≤ 1000000
  v0 : 0 ≤ X.val
  v1 : X.val ≤ 1073741824
  s0 : 0 ≤ X.sum
  s1 : X.sum ≤ 1073741824
  g0 : 0 ≤ X.gross
  g1 : X.gross ≤ 1073741824

theorem Fine.err {D : Dec} {X : Itm} (h : Fine D X) : Ad.err D X = 0 := by
  obtain ⟨h1, h2, h3, h4, h5, h6, h7, h8, h9, h10, h11, h12, h13, h14, h15⟩ := h
  rw [Ad.err, if_pos h1, if_pos (by simp only [money]; omega), itemErr, if_pos (by simp only [money]; omega)]

theorem fine_of {D : Dec} {X : Itm} (hv : D.v = 4) (hd : derr D = 0) (hi : itemErr X = 0) : Fine D X := by
  rw [derr, if_pos hv] at hd
  by_cases c : (D.l = -1 ∨ Ad.money D.l) ∧ Ad.money D.d ∧ Ad.money D.f ∧ 0 ≤ D.c ∧ D.c ≤ 1000000
  · by_cases c2 : Ad.money X.val ∧ Ad.money X.sum ∧ Ad.money X.gross
    · simp only [Ad.money] at c c2
      exact ⟨hv, by omega, by omega, by omega, by omega, by omega, by omega, by omega, by omega, by omega, by omega, by omega, by omega, by omega, by omega⟩
    · rw [itemErr, if_neg c2] at hi; omega
  · rw [if_neg c] at hd; omega

theorem r1_eq {D : Dec} {X : Itm} (h : Fine D X) : r1 D X = R1 D.a X.val X.sum X.gross ∧ 0 ≤ R1 D.a X.val X.sum X.gross ∧ R1 D.a X.val X.sum X.gross ≤ X.gross := by
  obtain ⟨h1, h2, h3, h4, h5, h6, h7, h8, h9, h10, h11, h12, h13, h14, h15⟩ := h
  unfold r1 aver R1
  by_cases c : D.a = false ∨ X.val ≤ X.sum
  · rw [if_pos c, if_pos c]; omega
  · rw [if_neg c, if_neg c]
    have hp := Am.hu_part X.gross X.sum X.val h14 h12 (by omega) (by omega)
    rw [Am.md_hu _ _ _ h14 (by omega) h12 (by omega) (by omega) (by omega), if_neg (by omega)]
    simp only
    omega

theorem net_eq {D : Dec} {X : Itm} (h : Fine D X) : net D X = R5 D.l (R4 D.c (R3 D.d (R2 D.f (R1 D.a X.val X.sum X.gross)))) := by
  have e1 := r1_eq h
  obtain ⟨h1, h2, h3, h4, h5, h6, h7, h8, h9, h10, h11, h12, h13, h14, h15⟩ := h
  obtain ⟨p, hp⟩ : ∃ p, R1 D.a X.val X.sum X.gross = p := ⟨_, rfl⟩
  rw [hp] at e1 ⊢
  obtain ⟨e1, p0, p1⟩ := e1
  have e2 : r2 D X = R2 D.f p := by unfold r2 fran R2; rw [e1]; split <;> omega
  have b2 : 0 ≤ R2 D.f p ∧ R2 D.f p ≤ 1073741824 := by unfold R2; split <;> omega
  have e3 : r3 D X = R3 D.d (R2 D.f p) := by unfold r3 ded R3; rw [e2]
  have b3 : 0 ≤ R3 D.d (R2 D.f p) ∧ R3 D.d (R2 D.f p) ≤ 1073741824 := by unfold R3; omega
  have e4 : r4 D X = R4 D.c (R3 D.d (R2 D.f p)) := by
    unfold r4 coin R4
    rw [e3]
    have hp := Am.hu_part (R3 D.d (R2 D.f p)) D.c 1000000 b3.1 h8 h9 (by omega)
    rw [Am.md_hu _ _ _ b3.1 (by omega) h8 (by omega) (by omega) (by omega), if_neg (by omega)]
  unfold net over R5
  rw [e4]
  by_cases c : D.l = -1
  · rw [if_pos c, if_pos c]; omega
  · rw [if_neg c, if_neg c]; omega

theorem R1_mono {a : Bool} {val sum g g' : Int} (h : g ≤ g') (s0 : 0 ≤ sum) (v0 : 0 ≤ val) : R1 a val sum g ≤ R1 a val sum g' := by
  unfold R1
  by_cases c : a = false ∨ val ≤ sum
  · rw [if_pos c, if_pos c]; exact h
  · rw [if_neg c, if_neg c]; exact Am.hu_mono (by omega) (Int.mul_le_mul_of_nonneg_right h s0)
theorem R2_mono {f r r' : Int} (h : r ≤ r') (r0 : 0 ≤ r) : R2 f r ≤ R2 f r' := by have := r0; unfold R2; split <;> split <;> omega
theorem R2_anti {f f' r : Int} (h : f ≤ f') (r0 : 0 ≤ r) : R2 f' r ≤ R2 f r := by have := r0; unfold R2; split <;> split <;> omega
theorem R3_mono {d r r' : Int} (h : r ≤ r') : R3 d r ≤ R3 d r' := by unfold R3; omega
theorem R3_anti {d d' r : Int} (h : d ≤ d') : R3 d' r ≤ R3 d r := by unfold R3; omega
theorem R3_nonneg {d r : Int} : 0 ≤ R3 d r := by unfold R3; omega
theorem R4_mono {c r r' : Int} (h : r ≤ r') (c1 : c ≤ 1000000) : R4 c r ≤ R4 c r' := Am.rest_mono r r' c 1000000 h c1 (by omega)
theorem R4_anti {c c' r : Int} (h : c ≤ c') (r0 : 0 ≤ r) : R4 c' r ≤ R4 c r := by
  have := Am.hu_mono (d := 1000000) (by omega) (Int.mul_le_mul_of_nonneg_left h r0)
  unfold R4; omega
theorem R5_mono {l r r' : Int} (h : r ≤ r') : R5 l r ≤ R5 l r' := by unfold R5; split <;> omega
theorem R5_more {l l' r : Int} (h : l ≤ l') (l0 : 0 ≤ l) : R5 l r ≤ R5 l' r := by unfold R5; rw [if_neg (by omega), if_neg (by omega)]; omega

theorem net_gross {D : Dec} {X : Itm} {g : Int} (h : Fine D X) (h' : Fine D { X with gross := g }) (hg : X.gross ≤ g) : net D X ≤ net D { X with gross := g } := by
  rw [net_eq h, net_eq h']
  exact R5_mono (R4_mono (R3_mono (R2_mono (R1_mono hg h.s0 h.v0) (r1_eq h).2.1)) h.c1)
theorem net_ded {D : Dec} {X : Itm} {d : Int} (h : Fine D X) (h' : Fine { D with d := d } X) (hg : D.d ≤ d) : net { D with d := d } X ≤ net D X := by
  rw [net_eq h, net_eq h']
  exact R5_mono (R4_mono (R3_anti hg) h.c1)
theorem net_fran {D : Dec} {X : Itm} {f : Int} (h : Fine D X) (h' : Fine { D with f := f } X) (hg : D.f ≤ f) : net { D with f := f } X ≤ net D X := by
  rw [net_eq h, net_eq h']
  exact R5_mono (R4_mono (R3_mono (R2_anti hg (r1_eq h).2.1)) h.c1)
theorem net_coin {D : Dec} {X : Itm} {c : Int} (h : Fine D X) (h' : Fine { D with c := c } X) (hg : D.c ≤ c) : net { D with c := c } X ≤ net D X := by
  rw [net_eq h, net_eq h']
  exact R5_mono (R4_anti hg R3_nonneg)
theorem net_lim {D : Dec} {X : Itm} {l : Int} (h : Fine D X) (h' : Fine { D with l := l } X) (hl : 0 ≤ D.l) (hg : D.l ≤ l) : net D X ≤ net { D with l := l } X := by
  rw [net_eq h, net_eq h']
  exact R5_more hg hl

theorem res_fine {D : Dec} {X : Itm} (h : Fine D X) : ∃ u a f d k o s, res D X = ⟨X.gross, u, a, f, d, k, o, s, net D X⟩ := by
  rw [res, if_pos h.err, if_pos h.v]
  exact ⟨_, _, _, _, _, _, _, rfl⟩
end Go.Proofs.Ytageedgbkaknnaa.Ad
