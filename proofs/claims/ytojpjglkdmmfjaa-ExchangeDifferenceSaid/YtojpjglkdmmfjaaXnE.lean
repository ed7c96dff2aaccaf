/- What is added and subtracted again: the balance. No program in sight. -/
import Derived.Test.YtojpjglkdmmfjaaXnD
import Derived.Test.YtojpjglkdmmfjaaXnO
namespace Go.Proofs.Ytojpjglkdmmfjaa
set_option linter.unusedVariables false

namespace Xn
theorem tot_congr {f g f' g' : Nat → Int} {c : Int} : ∀ k, (∀ j, j < k → f j = f' j ∧ g j = g' j) → tot f g c k = tot f' g' c k := fun k => by
  induction k with
  | zero => intro _; rfl
  | succ k ih => intro h; rw [tot, tot, ih fun j hj => h j (by omega), (h k (by omega)).1, (h k (by omega)).2]
theorem tot_app (f1 g1 f2 g2 : Nat → Int) (c : Int) (n1 : Nat) : ∀ n2, tot (app f1 f2 n1) (app g1 g2 n1) c (n1 + n2) = tot f1 g1 c n1 + tot f2 g2 c n2 := fun n2 => by
  induction n2 with
  | zero =>
    rw [Nat.add_zero, tot_congr (f := app f1 f2 n1) (g := app g1 g2 n1) (f' := f1) (g' := g1) n1 fun j hj => ⟨if_pos hj, if_pos hj⟩]
    simp [tot]
  | succ k ih =>
    have e1 : app f1 f2 n1 (n1 + k) = f2 k := by unfold app; rw [if_neg (by omega), show n1 + k - n1 = k by omega]
    have e2 : app g1 g2 n1 (n1 + k) = g2 k := by unfold app; rw [if_neg (by omega), show n1 + k - n1 = k by omega]
    rw [show n1 + (k + 1) = (n1 + k) + 1 by omega, tot, tot, ih, e1, e2]
    split <;> omega
theorem tot_sgn {f g : Nat → Int} {c : Int} : ∀ n, (∀ j, j < n → Am.validB (g j) = true) → tot f (sgn (-1) g) c n = - tot f g c n := fun n => by
  induction n with
  | zero => intro _; rfl
  | succ k ih =>
    intro h
    have e : sgn (-1) g k = -1 * g k := if_pos (h k (by omega))
    rw [tot, tot, ih fun j hj => h j (by omega), e]
    split <;> omega
theorem tot_snoc (l : List (Int × Int)) (a : Int × Int) (c : Int) : tot (fstOf (l ++ [a])) (sndOf (l ++ [a])) c (l.length + 1) = if a.1 = c then tot (fstOf l) (sndOf l) c l.length + a.2 else tot (fstOf l) (sndOf l) c l.length := by
  have e0 : (l ++ [a]).getD l.length (0, 0) = a := by simp [List.getD]
  have e1 : fstOf (l ++ [a]) l.length = a.1 := by unfold fstOf; rw [e0]
  have e2 : sndOf (l ++ [a]) l.length = a.2 := by unfold sndOf; rw [e0]
  rw [tot, e1, e2, tot_congr (f' := fstOf l) (g' := sndOf l) l.length fun j hj => by
    have : (l ++ [a]).getD j (0, 0) = l.getD j (0, 0) := by simp [List.getD, List.getElem?_append_left hj]
    unfold fstOf sndOf
    rw [this]
    exact ⟨rfl, rfl⟩]
theorem tot_bals (f g : Nat → Int) (n : Nat) (c : Int) : ∀ m : Nat, tot (fstOf (bals f g n (cus m))) (sndOf (bals f g n (cus m))) c (bals f g n (cus m)).length = if 0 ≤ c ∧ c < m then tot f g c n else 0 := fun m => by
  induction m with
  | zero => rw [if_neg (by omega)]; rfl
  | succ m ih =>
    rw [cus_succ, bals_snoc]
    by_cases h0 : tot f g m n = 0
    · rw [if_pos h0, List.append_nil, ih]
      by_cases hc : c = m
      · subst hc; rw [if_neg (by omega), if_pos (by omega), h0]
      · by_cases hl : 0 ≤ c ∧ c < m
        · rw [if_pos hl, if_pos (by omega)]
        · rw [if_neg hl, if_neg (by omega)]
    · rw [if_neg h0, List.length_append, List.length_singleton, tot_snoc, ih]
      by_cases hc : (m : Int) = c
      · subst hc
        rw [if_pos rfl, if_neg (by omega), if_pos (by omega)]
        simp
      · rw [if_neg hc]
        by_cases hl : 0 ≤ c ∧ c < m
        · rw [if_pos hl, if_pos (by omega)]
        · rw [if_neg hl, if_neg (by omega)]
theorem mem_bals {f g : Nat → Int} {n m : Nat} {a : Int × Int} (h : a ∈ bals f g n (cus m)) : 0 ≤ a.1 ∧ a.1 < m ∧ a.2 = tot f g a.1 n := by
  unfold bals at h
  obtain ⟨c, hc, e⟩ := List.mem_filterMap.1 h
  by_cases h0 : tot f g c n = 0
  · rw [if_pos h0] at e; cases e
  · rw [if_neg h0] at e
    injection e with e
    subst e
    exact ⟨(mem_cus.1 hc).1, (mem_cus.1 hc).2, rfl⟩
theorem bal_length (f g : Nat → Int) (n : Nat) : (bal f g n).length ≤ 16 := Nat.le_trans (bals_length _ _) (by rw [cus_length]; exact Nat.le_refl _)
theorem nerr_none {f g : Nat → Int} {n : Nat} (hn : n ≤ 100) (hc : ∀ i, i < n → Xc.curP (f i)) (hg : ∀ i, i < n → -34359738368 ≤ g i ∧ g i ≤ 34359738368) : nerr f g n = 0 := by
  have h0 : scan (cc f g) n 0 = 0 := scan_fine _ _ _ fun i _ hi => by
    have := hg i (by omega)
    rw [cc, if_neg (fun c => c (hc i (by omega))), if_neg (by rw [(Am.validB_iff (g i)).2 ⟨by omega, by omega⟩]; simp)]
  have hb : badB f g n (cus 16) = false := by
    unfold badB
    rw [List.any_eq_false]
    intro c _
    have := tot_bound (f := f) (g := g) (M := 34359738368) (c := c) n hg
    rw [(Am.validB_iff _).2 ⟨by omega, by omega⟩]
    simp
  rw [nerr, if_neg (by omega), if_neg (fun c => c h0), if_neg (by rw [hb]; simp)]
theorem mem_at' (ps : List (Int × Int)) (j : Nat) (h : j < ps.length) : (fstOf ps j, sndOf ps j) ∈ ps := by
  have e : ps.getD j (0, 0) = ps[j] := by simp [List.getD, List.getElem?_eq_getElem h]
  unfold fstOf sndOf
  rw [e]
  exact List.getElem_mem h

theorem filterMap_same {α β : Type} {p q : α → Option β} : ∀ l : List α, (∀ a, a ∈ l → p a = q a) → l.filterMap p = l.filterMap q
  | [], _ => rfl
  | a :: t, h => by rw [List.filterMap_cons, List.filterMap_cons, h a (by simp), filterMap_same t fun b hb => h b (by simp [hb])]
section
variable {f1 g1 f2 g2 : Nat → Int} {n1 n2 : Nat}
theorem app_all {P : Int → Prop} (h1 : ∀ j, j < n1 → P (f1 j)) (h2 : ∀ j, j < n2 → P (f2 j)) : ∀ j, j < n1 + n2 → P (app f1 f2 n1 j) := fun j hj => by
  unfold app
  by_cases h : j < n1
  · rw [if_pos h]; exact h1 j h
  · rw [if_neg h]; exact h2 _ (by omega)
/-- there and back -/
theorem back (hn1 : n1 ≤ 8) (hn2 : n2 ≤ 8) (hc1 : ∀ j, j < n1 → Xc.curP (f1 j)) (hc2 : ∀ j, j < n2 → Xc.curP (f2 j)) (hg1 : ∀ j, j < n1 → -1073741824 ≤ g1 j ∧ g1 j ≤ 1073741824) (hg2 : ∀ j, j < n2 → -1073741824 ≤ g2 j ∧ g2 j ≤ 1073741824) {l : List (Int × Int)} (hl : bal (app f1 f2 n1) (app g1 g2 n1) (n1 + n2) = l) :
    nerr (app f1 f2 n1) (app g1 g2 n1) (n1 + n2) = 0 ∧ nerr f1 g1 n1 = 0 ∧ nerr (app (fstOf l) f2 l.length) (app (sndOf l) (sgn (-1) g2) l.length) (l.length + n2) = 0 ∧ bal (app (fstOf l) f2 l.length) (app (sndOf l) (sgn (-1) g2) l.length) (l.length + n2) = bal f1 g1 n1 := by
  have hll : l.length ≤ 16 := by rw [← hl]; exact bal_length _ _ _
  have hga : ∀ j, j < n1 + n2 → -1073741824 ≤ app g1 g2 n1 j ∧ app g1 g2 n1 j ≤ 1073741824 := app_all (P := fun x => -1073741824 ≤ x ∧ x ≤ 1073741824) hg1 hg2
  have hv2 : ∀ j, j < n2 → Am.validB (g2 j) = true := fun j hj => by have := hg2 j hj; exact (Am.validB_iff _).2 ⟨by omega, by omega⟩
  have hat : ∀ j, j < l.length → 0 ≤ fstOf l j ∧ fstOf l j < 16 ∧ sndOf l j = tot (app f1 f2 n1) (app g1 g2 n1) (fstOf l j) (n1 + n2) := fun j hj => by
    have := mem_at' l j hj
    rw [← hl] at this
    have := mem_bals this
    rw [hl] at this
    exact this
  refine ⟨nerr_none (by omega) (app_all hc1 hc2) (fun j hj => by have := hga j hj; omega), nerr_none (by omega) hc1 (fun j hj => by have := hg1 j hj; omega), nerr_none (by omega) (app_all (fun j hj => ?_) hc2) (app_all (P := fun x => -34359738368 ≤ x ∧ x ≤ 34359738368) (fun j hj => ?_) fun j hj => ?_), ?_⟩
  · have := hat j hj; unfold Xc.curP; omega
  · have h3 := (hat j hj).2.2
    have := tot_bound (f := app f1 f2 n1) (g := app g1 g2 n1) (M := 1073741824) (c := fstOf l j) (n1 + n2) hga
    rw [h3]
    omega
  · have e : sgn (-1) g2 j = -1 * g2 j := if_pos (hv2 j hj)
    have := hg2 j hj
    omega
  · unfold bal bals
    apply filterMap_same
    intro c hc
    have hcm := mem_cus.1 hc
    have ht : tot (app (fstOf l) f2 l.length) (app (sndOf l) (sgn (-1) g2) l.length) c (l.length + n2) = tot f1 g1 c n1 := by
      have h1 := tot_bals (app f1 f2 n1) (app g1 g2 n1) (n1 + n2) c 16
      rw [show bals (app f1 f2 n1) (app g1 g2 n1) (n1 + n2) (cus 16) = l from hl, if_pos ⟨hcm.1, hcm.2⟩, tot_app] at h1
      rw [tot_app, h1, tot_sgn n2 hv2]
      omega
    rw [ht]
end
end Xn
end Go.Proofs.Ytojpjglkdmmfjaa
