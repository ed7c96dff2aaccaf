/- The deck of numbers: what its functions return lies in the range that was asked for. -/
import Derived.Test.YtlmgfcgakdanaaaKit
import Derived.Test.YtlmgfcgakdanaaaWithin
import Derived.Outline
namespace Go.Proofs.Ytlmgfcgakdanaaa
open Go.RowKit

/-- block b is a deck -/
def IsDeck (w : World) (b : Nat) : Prop := ∃ (A : Option Addr) (n c k : Nat) (z : Nat → Int),
  Has w b #[.slice A n c, .int .i64 k] 57 ∧ k ≤ n ∧ n ≤ 9223372036854775807 ∧ Cells w b A n fun j => .int .i64 (z j)

theorem IsDeck.lt {w : World} {b : Nat} (h : IsDeck w b) : b < w.heap.size := by
  obtain ⟨A, n, c, k, z, h, _⟩ := h
  exact h.lt

theorem IsDeck.below {w w' : World} {b B : Nat} (h : IsDeck w b) (hb : Below B w w') (hB : b < B) : IsDeck w' b := by
  obtain ⟨A, n, c, k, z, h, h1, h2, h3⟩ := h
  exact ⟨A, n, c, k, z, h.below hb hB, h1, h2, h3.below (hb.mono (Nat.le_of_lt hB))⟩
theorem IsDeck.alloc {w : World} {b : Nat} (h : IsDeck w b) (o : Obj) : IsDeck (w.alloc o) b :=
  h.below ((Below.refl _ _).alloc (Nat.le_refl _) o) h.lt
theorem IsDeck.drewN {w : World} {b : Nat} (h : IsDeck w b) (n : Nat) : IsDeck (w.drewN n) b := h.below (below_drewN (Below.refl w.heap.size w) n) h.lt
theorem IsDeck.far {w : World} {b : Nat} (h : IsDeck w b) {p : Addr} (hp : b < p.block) (u : Value) : IsDeck (w.setCell p u) b :=
  h.below (B := b + 1) ((Below.refl _ _).setCell hp u) (by omega)

/-- what a function of the deck returns: a number from lo to hi; the deck alone has changed -/
def DeckPost (b : Nat) (lo hi : Int) (w : World) (e : Ending) (w' : World) : Prop := ∃ v : Int, e = .returned (.int .i64 v) ∧ lo ≤ v ∧ v ≤ hi ∧ Keeps b w w' ∧ IsDeck w' b

set_option maxHeartbeats 1000000 in
theorem next_any (b : Nat) (n : Int) (w : World) (hd : IsDeck w b) (n0 : 0 < n) (n1 : n ≤ 70368744177664) :
    Calls Try.prog 13 #[.pointer (some ⟨b, 0, none⟩), .int .i64 n] w (DeckPost b 0 (n - 1) w) := by
  obtain ⟨A, l, c, k, z, hh, hk, hl, hc⟩ := hd
  have HH := Lib.hid hh
  obtain ⟨c0, c1, bl⟩ := hh.rules
  have HC := Lib.hid hc
  clear hc hh
  by_cases h : k < l
  · obtain ⟨ad, rfl, had, hcell⟩ := HC.out.get h
    obtain ⟨x, hx⟩ : ∃ x, z k = x := ⟨_, rfl⟩
    rw [hx] at hcell
    clear hx
    have hcell' : ∀ m u, ((w.drewN m).setCell ⟨b, 1, none⟩ u).cell? (ad.add k) = some (.int .i64 x) := fun m u => by
      rw [World.cell?_setCell_other _ _ _ _ (fun e => by have := congrArg Addr.block e; rw [add_block] at this; simp at this; omega)]
      exact hcell
    have HCELL := Lib.hid hcell'
    clear hcell' hcell
    go_enter Try.func13, Try.ntmps13
    go_wp2
    go_quiet (fail)
    go_wp2
    obtain ⟨w1, hw1⟩ : ∃ w1, (w.drewN nq).setCell ⟨b, 1, none⟩ (.int .i64 (k + 1)) = w1 := ⟨_, rfl⟩
    rw [hw1]
    have hh1 : Has w1 b #[.slice (some ad) l c, .int .i64 ((k + 1 : Nat) : Int)] 57 := by
      rw [← hw1]
      exact (HH.out.drewN nq).put 1 _
    have hcell := HCELL.out nq (.int .i64 (k + 1))
    rw [hw1] at hcell
    have HK : Hid (Keeps b w w1) := Lib.hid (by rw [← hw1]; exact ((Keeps.refl _ _).drewN _).put _ _)
    have HC1 : Hid (Cells w1 b (some ad) l fun j => .int .i64 (z j)) := Lib.hid (HC.out.keeps HK.out (Nat.le_refl _))
    have HH1 := Lib.hid hh1
    clear c0 c1 bl HCELL hw1 HC HH
    obtain ⟨c0, c1, bl⟩ := hh1.rules
    clear hh1
    obtain ⟨t, ht⟩ : ∃ t, x.tmod n = t := ⟨_, rfl⟩
    have hb := Am.tmod_bound x n n0
    have he := Am.within_eq x n n0
    rw [ht] at hb he
    obtain ⟨hb1, hb2⟩ := hb
    have h3 : 0 ≤ t + n := by omega
    rw [Int.tmod_eq_emod_of_nonneg (by omega)] at he
    have hv := Am.within_bound x n n0
    rw [← he] at hv
    have HV := Lib.hid hv
    have hn : ¬ n = 0 := by omega
    have hn2 : (n == 0) = false := by rw [beq_eq_false_iff_ne]; omega
    have hw2 : IntKind.i64.wrap (((k + 1 : Nat) : Int) - 1) = k := by rw [IntKind.wrap_i64]; omega
    have hw3 : IntKind.i64.wrap (t + n) = t + n := by rw [IntKind.wrap_i64]; omega
    have hk0 : (0 : Int) ≤ k := by omega
    have hk1 : (k : Int) < l := by omega
    clear he hv
    go_quiet (fail)
    go_wp2
    go_ret
    exact ⟨_, rfl, HV.out.1, by have := HV.out.2; omega, HK.out.drewN _, _, _, _, k + 1, z, HH1.out.drewN _, by omega, hl, HC1.out.drewN _⟩
  · have hkl : k = l := by omega
    subst hkl
    clear h
    go_enter Try.func13, Try.ntmps13
    go_wp2
    go_quiet (fail)
    go_wp2
    go_ret
    exact ⟨0, rfl, by omega, by omega, (Keeps.refl _ _).drewN _, A, k, c, k, z, HH.out.drewN _, by omega, hl, HC.out.drewN _⟩

set_option maxHeartbeats 400000 in
theorem deck_new (A : Option Addr) (n c : Nat) (z : Nat → Int) (w : World) (hn : n ≤ 9223372036854775807) (hc : Cells w w.heap.size A n fun j => .int .i64 (z j)) :
    Calls Try.prog 27 #[.slice A n c] w fun e w' => e = .returned (.pointer (some ⟨w.heap.size, 0, none⟩)) ∧ Below w.heap.size w w' ∧ IsDeck w' w.heap.size := by
  have HC := Lib.hid hc
  clear hc
  go_enter Try.func27, Try.ntmps27
  go_wp2
  go_ret
  exact ⟨rfl, (Below.refl _ _).alloc (Nat.le_refl _) _, A, n, c, 0, z, Has.new _ _ _, by omega, hn, HC.out.alloc (Nat.le_refl _) _⟩

set_option maxHeartbeats 1000000 in
theorem upto_any (b : Nat) (n : Int) (w : World) (hd : IsDeck w b) (n0 : 0 ≤ n) (n1 : n ≤ 35184372088832) :
    Calls Try.prog 15 #[.pointer (some ⟨b, 0, none⟩), .int .i64 n] w (DeckPost b 0 n w) := by
  have HD := Lib.hid hd
  clear hd
  go_enter Try.func15, Try.ntmps15
  go_wp2_with fail
  refine (next_any b 6 w HD.out (by omega) (by omega)).mono ?_
  rintro e w1 ⟨v, rfl, v0, v1, hk1, hd1⟩
  have HK1 := Lib.hid hk1
  have HD1 := Lib.hid hd1
  clear hk1 hd1 HD
  have hv : v = 0 ∨ v = 1 ∨ v = 2 ∨ v = 3 ∨ v = 4 ∨ v = 5 := by omega
  clear v0 v1
  rcases hv with rfl | rfl | rfl | rfl | rfl | rfl
  all_goals
    go_wp2_with fail
    all_goals
      refine (next_any b _ _ HD1.out (by omega) (by omega)).mono ?_
      rintro e w2 ⟨u, rfl, u0, u1, hk2, hd2⟩
      have HK2 : Hid (Keeps b w w2) := Lib.hid (HK1.out.trans hk2)
      have HD2 := Lib.hid hd2
      clear hk2 hd2 HD1 HK1
      go_wp2_with fail
      all_goals
        go_ret
        exact ⟨_, rfl, by omega, by omega, HK2.out, HD2.out⟩

set_option maxHeartbeats 400000 in
theorem money_any (b : Nat) (w : World) (hd : IsDeck w b) :
    Calls Try.prog 30 #[.pointer (some ⟨b, 0, none⟩)] w (DeckPost b 0 1073741824 w) := by
  have HD := Lib.hid hd
  clear hd
  go_enter Try.func30, Try.ntmps30
  go_wp2_with fail
  refine (upto_any b _ _ HD.out (by omega) (by omega)).mono ?_
  rintro e w2 ⟨u, rfl, u0, u1, hk2, hd2⟩
  have HK2 := Lib.hid hk2
  have HD2 := Lib.hid hd2
  clear hk2 hd2
  go_wp2_with fail
  go_ret
  exact ⟨_, rfl, u0, u1, HK2.out, HD2.out⟩

set_option maxHeartbeats 400000 in
theorem range_any (b : Nat) (lo hi : Int) (w : World) (hd : IsDeck w b) (h0 : -70368744177664 ≤ lo) (h1 : lo ≤ hi) (h2 : hi - lo < 70368744177664) (h3 : hi ≤ 70368744177664) :
    Calls Try.prog 32 #[.pointer (some ⟨b, 0, none⟩), .int .i64 lo, .int .i64 hi] w (DeckPost b lo hi w) := by
  have HD := Lib.hid hd
  clear hd
  go_enter Try.func32, Try.ntmps32
  go_wp2_with fail
  refine (next_any b _ _ HD.out (by omega) (by omega)).mono ?_
  rintro e w2 ⟨u, rfl, u0, u1, hk2, hd2⟩
  have HK2 := Lib.hid hk2
  have HD2 := Lib.hid hd2
  clear hk2 hd2
  go_wp2_with fail
  go_ret
  exact ⟨_, rfl, by omega, by omega, HK2.out, HD2.out⟩
end Go.Proofs.Ytlmgfcgakdanaaa
