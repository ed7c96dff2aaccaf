/- retro.Ceded and the reference's Ceded; slices of retrocessions. -/
import Derived.Test.YtdfajopniflaaaaReMath
import Derived.Test.YtdfajopniflaaaaShare
import Derived.Test.YtdfajopniflaaaaPairsOwn
namespace Go.Proofs.Ytdfajopniflaaaa
open Go.RowKit
set_option linter.unusedVariables false

def Re.Rt.agg (r : Re.Rt) : Value := .agg #[.int .i64 r.fr, .int .i64 r.ds, .int .i64 r.sh, .int .i64 r.re, .int .i64 r.li]
def Re.Rt.at' (r : Re.Rt) (j : Nat) : Int := if j = 0 then r.fr else if j = 1 then r.ds else if j = 2 then r.sh else if j = 3 then r.re else r.li

/-- n retrocessions -/
def Rets (w : World) (B : Nat) (A : Option Addr) (n : Nat) (R : Nat → Re.Rt) : Prop := Cells w B A (n * 5) fun j => .int .i64 ((R (j / 5)).at' (j % 5))

section
variable {w w' : World} {B B' n : Nat} {A : Option Addr} {R : Nat → Re.Rt}
theorem Rets.get {k : Nat} (h : Rets w B A n R) (hk : k < n) : ∃ b o, A = some ⟨b, o, none⟩ ∧ b < B ∧ w.cell? ⟨b, o + k * 5, none⟩ = some (.int .i64 (R k).fr) ∧ w.cell? ⟨b, o + k * 5 + 1, none⟩ = some (.int .i64 (R k).ds) ∧
    w.cell? ⟨b, o + k * 5 + 2, none⟩ = some (.int .i64 (R k).sh) ∧ w.cell? ⟨b, o + k * 5 + 3, none⟩ = some (.int .i64 (R k).re) ∧ w.cell? ⟨b, o + k * 5 + 4, none⟩ = some (.int .i64 (R k).li) := by
  obtain ⟨b, o, e, hb, hc⟩ := Cells.plain h (by omega)
  have hj : ∀ j, j < 5 → w.cell? ⟨b, o + k * 5 + j, none⟩ = some (.int .i64 ((R k).at' j)) := fun j hj => by
    have := hc (k * 5 + j) (by omega)
    rw [show (k * 5 + j) / 5 = k by omega, show (k * 5 + j) % 5 = j by omega, ← Nat.add_assoc] at this
    exact this
  exact ⟨b, o, e, hb, hj 0 (by omega), hj 1 (by omega), hj 2 (by omega), hj 3 (by omega), hj 4 (by omega)⟩
theorem Rets.below (h : Rets w B A n R) (hb : Below B w w') : Rets w' B A n R := Cells.below h hb
theorem Rets.mono (h : Rets w B A n R) (hB : B ≤ B') : Rets w B' A n R := Cells.mono h hB
theorem Rets.drewN (h : Rets w B A n R) (k : Nat) : Rets (w.drewN k) B A n R := h
theorem Rets.alloc (h : Rets w B A n R) (hB : B ≤ w.heap.size) (o : Obj) : Rets (w.alloc o) B A n R := Cells.alloc h hB o
theorem Rets.zero : Rets w B A 0 R := by rw [Rets, Nat.zero_mul]; exact Cells.zero
end

theorem Re.proper_ways (r : Re.Rt) : Re.proper r ∨ ¬ Re.proper r ∧ (r.sh < 1 ∨ 1 ≤ r.sh ∧ 1000000 < r.sh ∨ (1 ≤ r.sh ∧ r.sh ≤ 1000000) ∧ (r.re < 0 ∨ 0 ≤ r.re ∧ 1073741824 < r.re ∨ (0 ≤ r.re ∧ r.re ≤ 1073741824) ∧ (r.li < 1 ∨ 1 ≤ r.li ∧ 1073741824 < r.li))) := by
  unfold Re.proper; omega

def BoolPost (b : Bool) (w : World) (e : Ending) (w' : World) : Prop := e = .returned (.bool b) ∧ Below w.heap.size w w'
def IntPost (z : Int) (w : World) (e : Ending) (w' : World) : Prop := e = .returned (.int .i64 z) ∧ Below w.heap.size w w'
theorem ret_i64 {a b : Int} (h : a = b) : Ending.returned (.int .i64 a) = .returned (.int .i64 b) := by rw [h]

set_option maxHeartbeats 1000000 in
theorem proper_any (r : Re.Rt) (w : World) : Calls Try.prog 37 #[r.agg] w (BoolPost (decide (Re.proper r)) w) := by
  have hw := Re.proper_ways r
  obtain ⟨fr, ds, sh, re, li⟩ := r
  unfold Re.Rt.agg
  simp only at hw ⊢
  rcases hw with h | ⟨h, h1⟩
  · rw [decide_eq_true h]
    obtain ⟨h1, h2, h3, h4, h5, h6⟩ := h
    simp only at h1 h2 h3 h4 h5 h6
    go_enter Try.func37, Try.ntmps37
    go_wp2
    go_ret
    exact ⟨rfl, (Below.refl _ _).alloc (Nat.le_refl _) _⟩
  · rw [decide_eq_false h]
    clear h
    rcases h1 with h1 | ⟨h1, h2⟩ | ⟨⟨h1, h2⟩, h3 | ⟨h3, h4⟩ | ⟨⟨h3, h4⟩, h5 | ⟨h5, h6⟩⟩⟩
    all_goals
      go_enter Try.func37, Try.ntmps37
      go_wp2
      go_ret
      first
      | exact ⟨rfl, (Below.refl _ _).alloc (Nat.le_refl _) _⟩
      | exact ⟨show Ending.returned (.bool (decide (li ≤ 1073741824))) = _ by rw [decide_eq_false (by omega)], (Below.refl _ _).alloc (Nat.le_refl _) _⟩

set_option maxHeartbeats 1000000 in
theorem fits_any (r : Re.Rt) (w : World) : Calls Try.prog 39 #[r.agg] w (BoolPost (decide (Re.proper r)) w) := by
  have hw := Re.proper_ways r
  obtain ⟨fr, ds, sh, re, li⟩ := r
  unfold Re.Rt.agg
  simp only at hw ⊢
  rcases hw with h | ⟨h, h1⟩
  · rw [decide_eq_true h]
    obtain ⟨h1, h2, h3, h4, h5, h6⟩ := h
    simp only at h1 h2 h3 h4 h5 h6
    go_enter Try.func39, Try.ntmps39
    go_wp2
    go_ret
    exact ⟨rfl, (Below.refl _ _).alloc (Nat.le_refl _) _⟩
  · rw [decide_eq_false h]
    clear h
    rcases h1 with h1 | ⟨h1, h2⟩ | ⟨⟨h1, h2⟩, h3 | ⟨h3, h4⟩ | ⟨⟨h3, h4⟩, h5 | ⟨h5, h6⟩⟩⟩
    all_goals
      go_enter Try.func39, Try.ntmps39
      go_wp2
      go_ret
      first
      | exact ⟨rfl, (Below.refl _ _).alloc (Nat.le_refl _) _⟩
      | exact ⟨show Ending.returned (.bool (decide (li ≤ 1073741824))) = _ by rw [decide_eq_false (by omega)], (Below.refl _ _).alloc (Nat.le_refl _) _⟩

set_option maxHeartbeats 1000000 in
theorem ceded_any (r : Re.Rt) (x : Int) (w : World) : Calls Try.prog 26 #[r.agg, .int .i64 x] w (IntPost (Re.ced r x) w) := by
  have CP := Lib.hid (proper_any r)
  by_cases hp : Re.proper r ∧ 0 ≤ x ∧ x ≤ 17592186044416 ∧ r.re < x
  · have HC : Hid (Re.ced r x = min ((x - r.re) * r.sh / 1000000) r.li) := Lib.hid (if_pos hp)
    obtain ⟨hp, hx0, hx1, hx2⟩ := hp
    rw [decide_eq_true hp] at CP
    obtain ⟨fr, ds, sh, re, li⟩ := r
    obtain ⟨h1, h2, h3, h4, h5, h6⟩ := hp
    simp only at h1 h2 h3 h4 h5 h6 hx2
    obtain ⟨hm, hm0, hm1⟩ := Re.floor_share (x - re) sh (by omega) (by omega) (by omega) h2
    obtain ⟨q, hq⟩ : ∃ q, (x - re) * sh / 1000000 = q := ⟨_, rfl⟩
    simp only [hq] at HC hm hm0 hm1
    have HM := Lib.hid hm
    have hw : IntKind.i64.wrap (x - re) = x - re := by rw [IntKind.wrap_i64]; omega
    clear hm hq
    unfold Re.Rt.agg at CP ⊢
    rw [HC.out]
    go_enter Try.func26, Try.ntmps26
    go_wp2_with fail
    refine (CP.out _).mono ?_
    rintro e w1 ⟨rfl, hb⟩
    have HX := Lib.hid ((Has.new w _ _).below hb (by simp))
    have HB : Hid (Below w.heap.size w w1) := Lib.hid (((Below.refl _ _).alloc (Nat.le_refl _) _).trans (hb.mono (by simp)))
    clear hb
    obtain ⟨d0, d1, d2⟩ := HX.out.rules
    go_wp2_with (first | (go_at_call 38; refine (share_any _ _ _ _).mono ?_; rw [HM.out]; rintro e w' ⟨rfl, nq, rfl⟩))
    go_ret
    exact ⟨by first | rfl | (congr 2; omega), below_drewN HB.out _⟩
  · have HC : Hid (Re.ced r x = 0) := Lib.hid (if_neg hp)
    rw [HC.out]
    by_cases h : Re.proper r
    · rw [decide_eq_true h] at CP
      have h2 : x < 0 ∨ 0 ≤ x ∧ 17592186044416 < x ∨ (0 ≤ x ∧ x ≤ 17592186044416) ∧ x ≤ r.re := by
        by_cases c1 : 0 ≤ x
        · by_cases c2 : x ≤ 17592186044416
          · by_cases c3 : r.re < x
            · exact absurd ⟨h, c1, c2, c3⟩ hp
            · omega
          · omega
        · omega
      clear h hp HC
      obtain ⟨fr, ds, sh, re, li⟩ := r
      unfold Re.Rt.agg at CP ⊢
      simp only at h2 CP ⊢
      rcases h2 with h2 | ⟨h2, h3⟩ | ⟨⟨h2, h3⟩, h4⟩
      all_goals
        go_enter Try.func26, Try.ntmps26
        go_wp2_with fail
        refine (CP.out _).mono ?_
        rintro e w1 ⟨rfl, hb⟩
        have HX := Lib.hid ((Has.new w _ _).below hb (by simp))
        have HB : Hid (Below w.heap.size w w1) := Lib.hid (((Below.refl _ _).alloc (Nat.le_refl _) _).trans (hb.mono (by simp)))
        clear hb
        obtain ⟨d0, d1, d2⟩ := HX.out.rules
        go_wp2_with fail
        go_ret
        exact ⟨rfl, HB.out⟩
    · rw [decide_eq_false h] at CP
      clear h hp HC
      obtain ⟨fr, ds, sh, re, li⟩ := r
      unfold Re.Rt.agg at CP ⊢
      simp only at CP ⊢
      go_enter Try.func26, Try.ntmps26
      go_wp2_with fail
      refine (CP.out _).mono ?_
      rintro e w1 ⟨rfl, hb⟩
      have HB : Hid (Below w.heap.size w w1) := Lib.hid (((Below.refl _ _).alloc (Nat.le_refl _) _).trans (hb.mono (by simp)))
      clear hb
      go_wp2_with fail
      go_ret
      exact ⟨rfl, HB.out⟩

set_option maxHeartbeats 1000000 in
theorem rceded_any (r : Re.Rt) (x : Int) (w : World) : Calls Try.prog 27 #[r.agg, .int .i64 x] w (IntPost (Re.ced r x) w) := by
  have CP := Lib.hid (fits_any r)
  by_cases hx : 0 ≤ x ∧ x ≤ 17592186044416
  · obtain ⟨hx0, hx1⟩ := hx
    by_cases hp : Re.proper r
    · rw [decide_eq_true hp] at CP
      by_cases hre : r.re < x
      · have HC : Hid (Re.ced r x = min ((x - r.re) * r.sh / 1000000) r.li) := Lib.hid (if_pos ⟨hp, hx0, hx1, hre⟩)
        obtain ⟨fr, ds, sh, re, li⟩ := r
        obtain ⟨h1, h2, h3, h4, h5, h6⟩ := hp
        simp only at h1 h2 h3 h4 h5 h6 hre
        obtain ⟨hm, hm0, hm1⟩ := Re.floor_share (x - re) sh (by omega) (by omega) (by omega) h2
        obtain ⟨q, hq⟩ : ∃ q, (x - re) * sh / 1000000 = q := ⟨_, rfl⟩
        simp only [hq] at HC hm hm0 hm1
        have HM := Lib.hid hm
        have hw : IntKind.i64.wrap (x - re) = x - re := by rw [IntKind.wrap_i64]; omega
        clear hm hq
        unfold Re.Rt.agg at CP ⊢
        rw [HC.out]
        go_enter Try.func27, Try.ntmps27
        go_wp2_with fail
        refine (CP.out _).mono ?_
        rintro e w1 ⟨rfl, hb⟩
        have HX := Lib.hid ((Has.new w _ _).below hb (by simp))
        have HB : Hid (Below w.heap.size w w1) := Lib.hid (((Below.refl _ _).alloc (Nat.le_refl _) _).trans (hb.mono (by simp)))
        clear hb
        obtain ⟨d0, d1, d2⟩ := HX.out.rules
        go_wp2_with (first | (go_at_call 40; refine (rshare_any _ _ _ _).mono ?_; rw [HM.out]; rintro e w' ⟨rfl, nq, rfl⟩))
        go_ret
        exact ⟨by first | rfl | (congr 2; omega), below_drewN HB.out _⟩
      · have HC : Hid (Re.ced r x = 0) := Lib.hid (if_neg (fun c => hre c.2.2.2))
        rw [HC.out]
        have hre' : x ≤ r.re := by omega
        clear hp hre HC
        obtain ⟨fr, ds, sh, re, li⟩ := r
        unfold Re.Rt.agg at CP ⊢
        simp only at CP hre' ⊢
        go_enter Try.func27, Try.ntmps27
        go_wp2_with fail
        refine (CP.out _).mono ?_
        rintro e w1 ⟨rfl, hb⟩
        have HX := Lib.hid ((Has.new w _ _).below hb (by simp))
        have HB : Hid (Below w.heap.size w w1) := Lib.hid (((Below.refl _ _).alloc (Nat.le_refl _) _).trans (hb.mono (by simp)))
        clear hb
        obtain ⟨d0, d1, d2⟩ := HX.out.rules
        go_wp2_with fail
        go_ret
        exact ⟨rfl, HB.out⟩
    · rw [decide_eq_false hp] at CP
      have HC : Hid (Re.ced r x = 0) := Lib.hid (if_neg (fun c => hp c.1))
      rw [HC.out]
      clear hp HC
      obtain ⟨fr, ds, sh, re, li⟩ := r
      unfold Re.Rt.agg at CP ⊢
      simp only at CP ⊢
      go_enter Try.func27, Try.ntmps27
      go_wp2_with fail
      refine (CP.out _).mono ?_
      rintro e w1 ⟨rfl, hb⟩
      have HB : Hid (Below w.heap.size w w1) := Lib.hid (((Below.refl _ _).alloc (Nat.le_refl _) _).trans (hb.mono (by simp)))
      clear hb
      go_wp2_with fail
      go_ret
      exact ⟨rfl, HB.out⟩
  · have HC : Hid (Re.ced r x = 0) := Lib.hid (if_neg (fun c => hx ⟨c.2.1, c.2.2.1⟩))
    rw [HC.out]
    have h2 : x < 0 ∨ 0 ≤ x ∧ 17592186044416 < x := by omega
    clear hx HC CP
    obtain ⟨fr, ds, sh, re, li⟩ := r
    unfold Re.Rt.agg
    simp only
    rcases h2 with h2 | ⟨h2, h3⟩
    all_goals
      go_enter Try.func27, Try.ntmps27
      go_wp2_with fail
      go_ret
      exact ⟨rfl, (Below.refl _ _).alloc (Nat.le_refl _) _⟩
end Go.Proofs.Ytdfajopniflaaaa
