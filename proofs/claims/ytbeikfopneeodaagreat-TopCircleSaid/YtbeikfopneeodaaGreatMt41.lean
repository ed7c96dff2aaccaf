/- MulDiv of package amount and MulDiv of the reference both return Am.md; Share, Clamp and Within besides. Share of package amount and Share of the reference both return Am.md with a million as the denominator. retro.Ceded and the reference's Ceded; slices of retrocessions. -/
import Derived.Test.YtbeikfopneeodaaGreatMt11
import Derived.Test.YtbeikfopneeodaaGreatMt40
import Derived.Test.YtbeikfopneeodaaGreatMt04
import Derived.Test.YtbeikfopneeodaaGreatMt02
namespace Go.Proofs.YtbeikfopneeodaaGreat
open Go.RowKit

theorem Am.ediv_mul_emod (x : Int) : x / 18446744073709551616 * 18446744073709551616 + x % 18446744073709551616 = x := by omega

theorem Am.way_of (a num den m : Int) (neg : Bool) (hneg : neg = decide (a < 0)) (hm : ¬ (m < 1 ∨ 5 < m)) (hv : Am.validB a = true ∧ Am.factorB num = true ∧ Am.factorB den = true) (hd : ¬ den = 0) :
    Am.Way (Am.absI a * num / den) (Am.absI a * num % den) (Am.absI a * num / 18446744073709551616) den neg m (Am.md a num den m).1 (Am.md a num den m).2 := by
  have hnum := (Am.factorB_iff num).1 hv.2.1
  have hden := (Am.factorB_iff den).1 hv.2.2
  have hp : 0 ≤ Am.absI a * num := Int.mul_nonneg (Am.absI_nonneg a) hnum.1
  have hmag : Am.mag a num den m = Am.absI a * num / den + (if Am.awayB (Am.absI a * num / den) (Am.absI a * num % den) den neg m then 1 else 0) := by rw [hneg]; rfl
  have hsgn : ∀ x : Int, (if a < 0 then -x else x) = (if neg = true then -x else x) := fun x => by rw [hneg]; by_cases h : a < 0 <;> simp [h]
  generalize Am.absI a * num = p at *
  by_cases c1 : den ≤ p / 18446744073709551616
  · have h1 : den * 18446744073709551616 ≤ p := by omega
    have h2 : 18446744073709551616 ≤ p / den := by
      rw [Int.le_ediv_iff_mul_le (by omega)]; omega
    have h3 : 17592186044416 < Am.mag a num den m := by rw [hmag]; split <;> omega
    rw [Am.md_over hm hv hd h3]
    exact .inl ⟨c1, rfl, rfl⟩
  have c1' : p / 18446744073709551616 < den := by omega
  by_cases c2 : 17592186044416 < p / den
  · have h3 : 17592186044416 < Am.mag a num den m := by rw [hmag]; split <;> omega
    rw [Am.md_over hm hv hd h3]
    exact .inr (.inl ⟨c1', c2, rfl, rfl⟩)
  cases haw : Am.awayB (p / den) (p % den) den neg m
  · rw [haw] at hmag
    simp only [Bool.false_eq_true, if_false, Int.add_zero] at hmag
    rw [Am.md_ok hm hv hd (by omega), hmag, hsgn]
    exact .inr (.inr (.inr (.inr ⟨c1', by omega, Lib.hid haw, rfl, rfl⟩)))
  · rw [haw] at hmag
    simp only [if_true] at hmag
    by_cases c3 : p / den = 17592186044416
    · rw [Am.md_over hm hv hd (by omega)]
      exact .inr (.inr (.inl ⟨c1', ⟨by omega, by omega⟩, Lib.hid haw, rfl, rfl⟩))
    · rw [Am.md_ok hm hv hd (by omega), hmag, hsgn]
      exact .inr (.inr (.inr (.inl ⟨c1', by omega, Lib.hid haw, rfl, rfl⟩)))

theorem muldiv_any (a num den m : Int) (w : World) :
    Calls Tryz.prog 53 #[.int .i64 a, .int .i64 num, .int .i64 den, .int .i64 m] w fun e w' => e = .returned (.tuple #[.int .i64 (Am.md a num den m).1, .int .i64 (Am.md a num den m).2]) ∧ ∃ n, w' = w.drewN n := by
  by_cases hm : m < 1 ∨ 5 < m
  · rw [Am.md_mode hm]
    exact (muldiv_mode a num den m w hm).mono fun e w' ⟨h1, h2⟩ => ⟨h1, 0, h2.symm⟩
  by_cases hv' : ¬ (Am.validB a = true ∧ Am.factorB num = true ∧ Am.factorB den = true)
  · rw [Am.md_range hm hv']
    exact (muldiv_range a num den m w hm hv').mono fun e w' ⟨h1, h2⟩ => ⟨h1, 0, h2.symm⟩
  have hv := Classical.not_not.1 hv'
  by_cases hd : den = 0
  · rw [Am.md_zero hm hv hd]
    exact (muldiv_zero a num den m w hm hv hd).mono fun e w' ⟨h1, h2⟩ => ⟨h1, 0, h2.symm⟩
  have hA := (Am.validB_iff a).1 hv.1
  have hnum := (Am.factorB_iff num).1 hv.2.1
  have hden := (Am.factorB_iff den).1 hv.2.2
  have hp : 0 ≤ Am.absI a * num := Int.mul_nonneg (Am.absI_nonneg a) hnum.1
  have hb := Am.ediv_mul_emod (Am.absI a * num)
  by_cases hneg : a < 0
  · have hw := Am.way_of a num den m true (by simp [hneg]) hm hv hd
    have e : Am.absI a = -a := by simp [Am.absI, hneg]
    rw [e] at hw hp hb
    exact muldiv_neg a num den m _ _ _ _ _ _ w (by omega) hneg hA.1 hnum.1 hnum.2 (by omega) hden.2 (Lib.hid rfl) (Lib.hid rfl) (by omega) (by omega) (by omega)
      (Lib.hid (by rw [hb])) (Lib.hid (by rw [hb])) (Int.ediv_nonneg hp hden.1) (Int.emod_nonneg _ hd) (Int.emod_lt_of_pos _ (by omega)) hw
  · have hw := Am.way_of a num den m false (by simp [hneg]) hm hv hd
    have e : Am.absI a = a := by simp [Am.absI, hneg]
    rw [e] at hw hp hb
    exact muldiv_pos a num den m _ _ _ _ _ _ w (by omega) (by omega) hA.2 hnum.1 hnum.2 (by omega) hden.2 (Lib.hid rfl) (Lib.hid rfl) (by omega) (by omega) (by omega)
      (Lib.hid (by rw [hb])) (Lib.hid (by rw [hb])) (Int.ediv_nonneg hp hden.1) (Int.emod_nonneg _ hd) (Int.emod_lt_of_pos _ (by omega)) hw

/-- what the reference's ways come to -/
def Ref.Way (Q R den : Int) (neg : Bool) (m out err : Int) : Prop :=
  (35184372088832 < Q ∧ out = 0 ∧ err = 3) ∨
  (Q ≤ 35184372088832 ∧ Hid (Am.awayB Q R den neg m = true) ∧ 17592186044416 < Q + 1 ∧ out = 0 ∧ err = 3) ∨
  (Hid (Am.awayB Q R den neg m = true) ∧ Q + 1 ≤ 17592186044416 ∧ (if neg then -(Q + 1) else Q + 1) = out ∧ err = 0) ∨
  (Q ≤ 35184372088832 ∧ Hid (Am.awayB Q R den neg m = false) ∧ 17592186044416 < Q ∧ out = 0 ∧ err = 3) ∨
  (Hid (Am.awayB Q R den neg m = false) ∧ Q ≤ 17592186044416 ∧ (if neg then -Q else Q) = out ∧ err = 0)

theorem Ref.way_of (a num den m : Int) (neg : Bool) (hneg : neg = decide (a < 0)) (hm : ¬ (m < 1 ∨ 5 < m)) (hv : Am.validB a = true ∧ Am.factorB num = true ∧ Am.factorB den = true) (hd : ¬ den = 0) :
    Ref.Way (Am.absI a * num / den) (Am.absI a * num % den) den neg m (Am.md a num den m).1 (Am.md a num den m).2 := by
  have hmag : Am.mag a num den m = Am.absI a * num / den + (if Am.awayB (Am.absI a * num / den) (Am.absI a * num % den) den neg m then 1 else 0) := by rw [hneg]; rfl
  have hsgn : ∀ x : Int, (if neg = true then -x else x) = (if a < 0 then -x else x) := fun x => by rw [hneg]; by_cases h : a < 0 <;> simp [h]
  generalize Am.absI a * num = p at *
  by_cases c1 : 35184372088832 < p / den
  · rw [Am.md_over hm hv hd (by rw [hmag]; split <;> omega)]
    exact .inl ⟨c1, rfl, rfl⟩
  cases haw : Am.awayB (p / den) (p % den) den neg m
  · rw [haw] at hmag
    simp only [Bool.false_eq_true, if_false, Int.add_zero] at hmag
    by_cases c2 : 17592186044416 < p / den
    · rw [Am.md_over hm hv hd (by omega)]
      exact .inr (.inr (.inr (.inl ⟨by omega, Lib.hid haw, c2, rfl, rfl⟩)))
    · rw [Am.md_ok hm hv hd (by omega), hmag]
      exact .inr (.inr (.inr (.inr ⟨Lib.hid haw, by omega, hsgn _, rfl⟩)))
  · rw [haw] at hmag
    simp only [if_true] at hmag
    by_cases c2 : 17592186044416 < p / den + 1
    · rw [Am.md_over hm hv hd (by omega)]
      exact .inr (.inl ⟨by omega, Lib.hid haw, c2, rfl, rfl⟩)
    · rw [Am.md_ok hm hv hd (by omega), hmag]
      exact .inr (.inr (.inl ⟨Lib.hid haw, by omega, hsgn _, rfl⟩))

#print axioms muldiv_any
end Go.Proofs.YtbeikfopneeodaaGreat
namespace Go.Proofs.YtbeikfopneeodaaGreat
open Go.RowKit
set_option maxHeartbeats 400000 in
theorem share_any (a x m : Int) (w : World) :
    Calls Tryz.prog 34 #[.int .i64 a, .int .i64 x, .int .i64 m] w fun e w' => e = .returned (.tuple #[.int .i64 (Am.md a x 1000000 m).1, .int .i64 (Am.md a x 1000000 m).2]) ∧ ∃ n, w' = w.drewN n := by
  go_enter Tryz.func34, Tryz.ntmps34
  go_wp2_with (go_at_call 53; refine (muldiv_any _ _ _ _ _).mono ?_; rintro e w' ⟨rfl, nq, rfl⟩)
  go_ret2
  exact ⟨rfl, _, rfl⟩
end Go.Proofs.YtbeikfopneeodaaGreat
namespace Go.Proofs.YtbeikfopneeodaaGreat
open Go.RowKit
set_option linter.unusedVariables false

def Re.Rt.agg (r : Re.Rt) : Value := .agg #[.int .i64 r.fr, .int .i64 r.ds, .int .i64 r.sh, .int .i64 r.re, .int .i64 r.li]
def Re.Rt.at' (r : Re.Rt) (j : Nat) : Int := if j = 0 then r.fr else if j = 1 then r.ds else if j = 2 then r.sh else if j = 3 then r.re else r.li

/-- n retrocessions -/
def Rets (w : World) (B : Nat) (A : Option Addr) (n : Nat) (R : Nat → Re.Rt) : Prop := Cells w B A (n * 5) fun j => .int .i64 ((R (j / 5)).at' (j % 5))

section
variable {w w' : World} {B B' n : Nat} {A : Option Addr} {R : Nat → Re.Rt}
theorem Rets.get {k : Nat} (h : Rets w B A n R) (hk : k < n) : ∃ b o, A = some ⟨b, o, none⟩ ∧ b < B ∧ w.cell? ⟨b, o + k * 5, none⟩ = some (.int .i64 (R k).fr) ∧ w.cell? ⟨b, o + k * 5 + 1, none⟩ = some (.int .i64 (R k).ds) ∧
    w.cell? ⟨b, o + k * 5 + 2, none⟩ = some (.int .i64 (R k).sh) ∧ w.cell? ⟨b, o + k * 5 + 3, none⟩ = some (.int .i64 (R k).re) ∧ w.cell? ⟨b, o + k * 5 + 4, none⟩ = some (.int .i64 (R k).li) := by
  obtain ⟨b, o, e, hb, hc⟩ := Cells.plain h (by omega)
  have hj : ∀ j, j < 5 → w.cell? ⟨b, o + k * 5 + j, none⟩ = some (.int .i64 ((R k).at' j)) := fun j hj => by
    have := hc (k * 5 + j) (by omega)
    rw [show (k * 5 + j) / 5 = k by omega, show (k * 5 + j) % 5 = j by omega, ← Nat.add_assoc] at this
    exact this
  exact ⟨b, o, e, hb, hj 0 (by omega), hj 1 (by omega), hj 2 (by omega), hj 3 (by omega), hj 4 (by omega)⟩
theorem Rets.below (h : Rets w B A n R) (hb : Below B w w') : Rets w' B A n R := Cells.below h hb
theorem Rets.mono (h : Rets w B A n R) (hB : B ≤ B') : Rets w B' A n R := Cells.mono h hB
theorem Rets.drewN (h : Rets w B A n R) (k : Nat) : Rets (w.drewN k) B A n R := h
theorem Rets.alloc (h : Rets w B A n R) (hB : B ≤ w.heap.size) (o : Obj) : Rets (w.alloc o) B A n R := Cells.alloc h hB o
theorem Rets.zero : Rets w B A 0 R := by rw [Rets, Nat.zero_mul]; exact Cells.zero
end

theorem Re.proper_ways (r : Re.Rt) : Re.proper r ∨ ¬ Re.proper r ∧ (r.sh < 1 ∨ 1 ≤ r.sh ∧ 1000000 < r.sh ∨ (1 ≤ r.sh ∧ r.sh ≤ 1000000) ∧ (r.re < 0 ∨ 0 ≤ r.re ∧ 1073741824 < r.re ∨ (0 ≤ r.re ∧ r.re ≤ 1073741824) ∧ (r.li < 1 ∨ 1 ≤ r.li ∧ 1073741824 < r.li))) := by
  unfold Re.proper; omega

set_option maxHeartbeats 1000000 in
theorem proper_any (r : Re.Rt) (w : World) : Calls Tryz.prog 23 #[r.agg] w (BoolPost (decide (Re.proper r)) w) := by
  have hw := Re.proper_ways r
  obtain ⟨fr, ds, sh, re, li⟩ := r
  unfold Re.Rt.agg
  simp only at hw ⊢
  rcases hw with h | ⟨h, h1⟩
  · rw [decide_eq_true h]
    obtain ⟨h1, h2, h3, h4, h5, h6⟩ := h
    simp only at h1 h2 h3 h4 h5 h6
    go_enter Tryz.func23, Tryz.ntmps23
    go_wp2
    go_ret
    exact ⟨rfl, (Below.refl _ _).alloc (Nat.le_refl _) _⟩
  · rw [decide_eq_false h]
    clear h
    rcases h1 with h1 | ⟨h1, h2⟩ | ⟨⟨h1, h2⟩, h3 | ⟨h3, h4⟩ | ⟨⟨h3, h4⟩, h5 | ⟨h5, h6⟩⟩⟩
    all_goals
      go_enter Tryz.func23, Tryz.ntmps23
      go_wp2
      go_ret
      first
      | exact ⟨rfl, (Below.refl _ _).alloc (Nat.le_refl _) _⟩
      | exact ⟨show Ending.returned (.bool (decide (li ≤ 1073741824))) = _ by rw [decide_eq_false (by omega)], (Below.refl _ _).alloc (Nat.le_refl _) _⟩


set_option maxHeartbeats 1000000 in
theorem ceded_any (r : Re.Rt) (x : Int) (w : World) : Calls Tryz.prog 22 #[r.agg, .int .i64 x] w (IntPost (Re.ced r x) w) := by
  have CP := Lib.hid (proper_any r)
  by_cases hp : Re.proper r ∧ 0 ≤ x ∧ x ≤ 17592186044416 ∧ r.re < x
  · have HC : Hid (Re.ced r x = min ((x - r.re) * r.sh / 1000000) r.li) := Lib.hid (if_pos hp)
    obtain ⟨hp, hx0, hx1, hx2⟩ := hp
    rw [decide_eq_true hp] at CP
    obtain ⟨fr, ds, sh, re, li⟩ := r
    obtain ⟨h1, h2, h3, h4, h5, h6⟩ := hp
    simp only at h1 h2 h3 h4 h5 h6 hx2
    obtain ⟨hm, hm0, hm1⟩ := Re.floor_share (x - re) sh (by omega) (by omega) (by omega) h2
    obtain ⟨q, hq⟩ : ∃ q, (x - re) * sh / 1000000 = q := ⟨_, rfl⟩
    simp only [hq] at HC hm hm0 hm1
    have HM := Lib.hid hm
    have hw : IntKind.i64.wrap (x - re) = x - re := by rw [IntKind.wrap_i64]; omega
    clear hm hq
    unfold Re.Rt.agg at CP ⊢
    rw [HC.out]
    go_enter Tryz.func22, Tryz.ntmps22
    go_wp2_with fail
    refine (CP.out _).mono ?_
    rintro e w1 ⟨rfl, hb⟩
    have HX := Lib.hid ((Has.new w _ _).below hb (by simp))
    have HB : Hid (Below w.heap.size w w1) := Lib.hid (((Below.refl _ _).alloc (Nat.le_refl _) _).trans (hb.mono (by simp)))
    clear hb
    obtain ⟨d0, d1, d2⟩ := HX.out.rules
    go_wp2_with (first | (go_at_call 34; refine (share_any _ _ _ _).mono ?_; rw [HM.out]; rintro e w' ⟨rfl, nq, rfl⟩))
    go_ret
    exact ⟨by first | rfl | (congr 2; omega), below_drewN HB.out _⟩
  · have HC : Hid (Re.ced r x = 0) := Lib.hid (if_neg hp)
    rw [HC.out]
    by_cases h : Re.proper r
    · rw [decide_eq_true h] at CP
      have h2 : x < 0 ∨ 0 ≤ x ∧ 17592186044416 < x ∨ (0 ≤ x ∧ x ≤ 17592186044416) ∧ x ≤ r.re := by
        by_cases c1 : 0 ≤ x
        · by_cases c2 : x ≤ 17592186044416
          · by_cases c3 : r.re < x
            · exact absurd ⟨h, c1, c2, c3⟩ hp
            · omega
          · omega
        · omega
      clear h hp HC
      obtain ⟨fr, ds, sh, re, li⟩ := r
      unfold Re.Rt.agg at CP ⊢
      simp only at h2 CP ⊢
      rcases h2 with h2 | ⟨h2, h3⟩ | ⟨⟨h2, h3⟩, h4⟩
      all_goals
        go_enter Tryz.func22, Tryz.ntmps22
        go_wp2_with fail
        refine (CP.out _).mono ?_
        rintro e w1 ⟨rfl, hb⟩
        have HX := Lib.hid ((Has.new w _ _).below hb (by simp))
        have HB : Hid (Below w.heap.size w w1) := Lib.hid (((Below.refl _ _).alloc (Nat.le_refl _) _).trans (hb.mono (by simp)))
        clear hb
        obtain ⟨d0, d1, d2⟩ := HX.out.rules
        go_wp2_with fail
        go_ret
        exact ⟨rfl, HB.out⟩
    · rw [decide_eq_false h] at CP
      clear h hp HC
      obtain ⟨fr, ds, sh, re, li⟩ := r
      unfold Re.Rt.agg at CP ⊢
      simp only at CP ⊢
      go_enter Tryz.func22, Tryz.ntmps22
      go_wp2_with fail
      refine (CP.out _).mono ?_
      rintro e w1 ⟨rfl, hb⟩
      have HB : Hid (Below w.heap.size w w1) := Lib.hid (((Below.refl _ _).alloc (Nat.le_refl _) _).trans (hb.mono (by simp)))
      clear hb
      go_wp2_with fail
      go_ret
      exact ⟨rfl, HB.out⟩

end Go.Proofs.YtbeikfopneeodaaGreat
