/- What Apply uses, added up: chapter 28's laws about sums. -/
import Derived.Test.YtlmgfcgakdanaaaEv28
import Derived.Test.YtlmgfcgakdanaaaApP
namespace Go.Proofs.Ytlmgfcgakdanaaa
open Go.RowKit

section
variable {t : Ty} {n : Nat} {h l : Nat → Int}
theorem Ty.aerr_small (hx : t.xerr = 0) (hn : n ≤ 12) (hh : ∀ i, i < n → 0 ≤ h i ∧ h i ≤ 129) (hl : ∀ i, i < n → 0 ≤ l i ∧ l i ≤ 268435455) : t.aerr n h n l = 0 := by
  have h1 := Ex.psum_bound l 268435455 n hl
  have h2 : scan (Rn.ec h l) n 0 = 0 := scan_fine _ n 0 fun j _ hj => Rn.ec_fine (by
    have := hh j (by omega); have := hl j (by omega)
    unfold Ex.hourP Ex.amt
    omega)
  unfold Ty.aerr Rn.eerr
  rw [if_neg (fun c => c hx), if_neg (by omega), if_neg (fun c => c h2), if_neg (by omega)]

/-- what is used before the i-th event -/
def Ty.att (t : Ty) (l : Nat → Int) (i : Nat) : Int := Rn.at' t.ded t.most l i
theorem Ty.att_zero (hx : t.xerr = 0) : t.att l 0 = 0 := Rn.g_zero _ (Ty.xspans hx).2.2.1.1
theorem Ty.att_bound (i : Nat) : 0 ≤ t.att l i ∧ t.att l i ≤ 17592186044416 := Rn.g_bound _ _ _
theorem Ty.use_each (hx : t.xerr = 0) (hl : ∀ i, i < n → 0 ≤ l i) {i : Nat} (hi : i < n) :
    0 ≤ (t.uses h l i).a ∧ (t.uses h l i).a ≤ l i ∧ 0 ≤ (t.uses h l i).b ∧ (t.uses h l i).b ≤ (t.uses h l i).a ∧ 0 ≤ (t.uses h l i).c := by
  have h1 := Rn.paid_bound (d := t.ded) (m := t.most) hl hi
  have h2 := Rn.at_mono (d := t.ded) (m := t.most) hl hi
  have hp := (Ty.fine (Ty.xfine hx).1).2.2.1
  have hm := Rn.price_mono (Ty.fit hx) h2
  have hb1 := Rn.price_bound8 (Ty.fit hx) (Rn.at' t.ded t.most l i)
  have hb2 := Rn.price_bound8 (Ty.fit hx) (Rn.at' t.ded t.most l (i + 1))
  have h3 := Rn.prem_bound t.timed (h := h i) hp.2.1 hp.1 hp.2.2 (Int.sub_nonneg_of_le hm) (by omega)
  refine ⟨h1.1, h1.2, ?_, ?_, h3.1⟩
  · show 0 ≤ Rn.rein _ _ _
    unfold Rn.rein; omega
  · show Rn.rein _ _ _ ≤ _ - _
    unfold Rn.rein; omega
theorem Ty.sum_a (hx : t.xerr = 0) (k : Nat) : Ex.psum (fun i => (t.uses h l i).a) k = t.att l k := by
  have := psum_tele (t.att l) k
  rw [Ty.att_zero hx, Int.sub_zero] at this
  exact this
theorem Ty.sum_b (hx : t.xerr = 0) (k : Nat) : Ex.psum (fun i => (t.uses h l i).b) k = min (t.att l k) (t.nre * t.lim) := by
  have := psum_tele (fun i => min (t.att l i) (t.nre * t.lim)) k
  have h0 : 0 ≤ (t.nre : Int) * t.lim := Int.mul_nonneg (by omega) (by have := Ty.xspans hx; omega)
  simp only [Ty.att_zero hx] at this
  rw [show min 0 ((t.nre : Int) * t.lim) = 0 by omega, Int.sub_zero] at this
  exact this
theorem Ty.sum_p (hx : t.xerr = 0) (k : Nat) : Ex.psum (fun i => Rn.price t.prem t.lim t.fre t.nre (t.att l (i + 1)) - Rn.price t.prem t.lim t.fre t.nre (t.att l i)) k = Rn.price t.prem t.lim t.fre t.nre (t.att l k) := by
  have := psum_tele (fun i => Rn.price t.prem t.lim t.fre t.nre (t.att l i)) k
  simp only [Ty.att_zero hx, Rn.price_zero (Ty.fit hx), Int.sub_zero] at this
  exact this
theorem Ty.sum_c (hx : t.xerr = 0) (hl : ∀ i, i < n → 0 ≤ l i) {k : Nat} (hk : k ≤ n) :
    0 ≤ Ex.psum (fun i => (t.uses h l i).c) k ∧ Ex.psum (fun i => (t.uses h l i).c) k ≤ Rn.price t.prem t.lim t.fre t.nre (t.att l k) ∧
    (t.timed = false → Ex.psum (fun i => (t.uses h l i).c) k = Rn.price t.prem t.lim t.fre t.nre (t.att l k)) := by
  refine ⟨psum_nonneg k fun j hj => (Ty.use_each (h := h) hx hl (i := j) (by omega)).2.2.2.2, ?_, fun ht => ?_⟩
  · rw [← Ty.sum_p hx k]
    refine psum_le k fun j hj => ?_
    have h2 := Rn.at_mono (d := t.ded) (m := t.most) hl (i := j) (by omega)
    have hp := (Ty.fine (Ty.xfine hx).1).2.2.1
    have hm := Rn.price_mono (Ty.fit hx) h2
    have hb1 := Rn.price_bound8 (Ty.fit hx) (Rn.at' t.ded t.most l j)
    have hb2 := Rn.price_bound8 (Ty.fit hx) (Rn.at' t.ded t.most l (j + 1))
    exact (Rn.prem_bound t.timed (h := h j) hp.2.1 hp.1 hp.2.2 (Int.sub_nonneg_of_le hm) (by omega)).2
  · rw [← Ty.sum_p hx k]
    refine psum_congr k fun j hj => ?_
    show Rn.prem t.timed _ _ _ _ = _
    rw [ht]
    rfl
theorem Ty.once_bound (hx : t.xerr = 0) : 0 ≤ (t.nre : Int) * t.lim ∧ (t.nre : Int) * t.lim ≤ 8589934592 := by
  have h1 := Ty.xspans hx
  have h2 := (Ty.fine (Ty.xfine hx).1).2.2.2.2.1
  have h3 : (t.nre : Int) * t.lim ≤ 8 * 1073741824 := Int.mul_le_mul (by omega) h1.1.2 (by omega) (by omega)
  exact ⟨Int.mul_nonneg (by omega) (by omega), by omega⟩

/-- Apply of good events -/
def FinePost (m : Nat) (U : Nat → T3) (w : World) (e : Ending) (w' : World) : Prop := ∃ (g c : Nat), e = .returned (.tuple #[.slice (some ⟨g, 0, none⟩) m c, .int .i64 0]) ∧ Trips w' w'.heap.size (some ⟨g, 0, none⟩) m U ∧ Below w.heap.size w w'
theorem UsesPost.good {er : Int} {n : Nat} {U : Nat → T3} {w w' : World} {e : Ending} (h : UsesPost er n U w e w') (he : er = 0) : FinePost n U w e w' := by
  rcases h with ⟨h1, _⟩ | ⟨_, g, c, h2, _, h4, h5⟩
  · exact absurd he h1
  · exact ⟨g, c, h2, h4, h5⟩
end
end Go.Proofs.Ytlmgfcgakdanaaa
