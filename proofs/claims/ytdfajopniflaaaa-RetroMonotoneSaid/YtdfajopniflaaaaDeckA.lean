/- The deck, with the list that it was made of told apart. -/
import Derived.Test.YtdfajopniflaaaaReLi
namespace Go.Proofs.Ytdfajopniflaaaa
open Go.RowKit
set_option linter.unusedVariables false

/-- block b is a deck over that list -/
def DeckA (A : Option Addr) (n c : Nat) (z : Nat → Int) (w : World) (b : Nat) : Prop := ∃ k : Nat, Has w b #[.slice A n c, .int .i64 k] 62 ∧ k ≤ n ∧ n ≤ 9223372036854775807 ∧ Cells w b A n fun j => .int .i64 (z j)
def DeckPostA (A : Option Addr) (n c : Nat) (z : Nat → Int) (b : Nat) (lo hi : Int) (w : World) (e : Ending) (w' : World) : Prop := ∃ v : Int, e = .returned (.int .i64 v) ∧ lo ≤ v ∧ v ≤ hi ∧ Keeps b w w' ∧ DeckA A n c z w' b
theorem DeckA.lt {A : Option Addr} {n c : Nat} {z : Nat → Int} {w : World} {b : Nat} (h : DeckA A n c z w b) : b < w.heap.size := by obtain ⟨k, h, _⟩ := h; exact h.lt
theorem DeckA.drewN {A : Option Addr} {n c : Nat} {z : Nat → Int} {w : World} {b : Nat} (h : DeckA A n c z w b) (q : Nat) : DeckA A n c z (w.drewN q) b := h
theorem DeckA.far {A : Option Addr} {n c : Nat} {z : Nat → Int} {w : World} {b : Nat} (h : DeckA A n c z w b) {p : Addr} (h1 : b ≠ p.block) (h2 : ∀ ad, A = some ad → ad.block ≠ p.block) (u : Value) : DeckA A n c z (w.setCell p u) b := by
  obtain ⟨k, hh, a1, a2, hc⟩ := h
  exact ⟨k, hh.far h1 u, a1, a2, Nums.far (f := z) hc h2 u⟩

set_option maxHeartbeats 1000000 in
theorem next_anyA (A : Option Addr) (l c : Nat) (z : Nat → Int) (b : Nat) (n : Int) (w : World) (hd : DeckA A l c z w b) (n0 : 0 < n) (n1 : n ≤ 70368744177664) :
    Calls Try.prog 30 #[.pointer (some ⟨b, 0, none⟩), .int .i64 n] w (DeckPostA A l c z b 0 (n - 1) w) := by
  obtain ⟨k, hh, hk, hl, hc⟩ := hd
  have HH := Lib.hid hh
  obtain ⟨c0, c1, bl⟩ := hh.rules
  have HC := Lib.hid hc
  clear hc hh
  by_cases h : k < l
  · obtain ⟨ad, rfl, had, hcell⟩ := HC.out.get h
    obtain ⟨x, hx⟩ : ∃ x, z k = x := ⟨_, rfl⟩
    rw [hx] at hcell
    clear hx
    have hcell' : ∀ m u, ((w.drewN m).setCell ⟨b, 1, none⟩ u).cell? (ad.add k) = some (.int .i64 x) := fun m u => by
      rw [World.cell?_setCell_other _ _ _ _ (fun e => by have := congrArg Addr.block e; rw [add_block] at this; simp at this; omega)]
      exact hcell
    have HCELL := Lib.hid hcell'
    clear hcell' hcell
    go_enter Try.func30, Try.ntmps30
    go_wp2
    go_quiet (fail)
    go_wp2
    obtain ⟨w1, hw1⟩ : ∃ w1, (w.drewN nq).setCell ⟨b, 1, none⟩ (.int .i64 (k + 1)) = w1 := ⟨_, rfl⟩
    rw [hw1]
    have hh1 : Has w1 b #[.slice (some ad) l c, .int .i64 ((k + 1 : Nat) : Int)] 62 := by
      rw [← hw1]
      exact (HH.out.drewN nq).put 1 _
    have hcell := HCELL.out nq (.int .i64 (k + 1))
    rw [hw1] at hcell
    have HK : Hid (Keeps b w w1) := Lib.hid (by rw [← hw1]; exact ((Keeps.refl _ _).drewN _).put _ _)
    have HC1 : Hid (Cells w1 b (some ad) l fun j => .int .i64 (z j)) := Lib.hid (HC.out.keeps HK.out (Nat.le_refl _))
    have HH1 := Lib.hid hh1
    clear c0 c1 bl HCELL hw1 HC HH
    obtain ⟨c0, c1, bl⟩ := hh1.rules
    clear hh1
    obtain ⟨t, ht⟩ : ∃ t, x.tmod n = t := ⟨_, rfl⟩
    have hb := Am.tmod_bound x n n0
    have he := Am.within_eq x n n0
    rw [ht] at hb he
    obtain ⟨hb1, hb2⟩ := hb
    have h3 : 0 ≤ t + n := by omega
    rw [Int.tmod_eq_emod_of_nonneg (by omega)] at he
    have hv := Am.within_bound x n n0
    rw [← he] at hv
    have HV := Lib.hid hv
    have hn : ¬ n = 0 := by omega
    have hn2 : (n == 0) = false := by rw [beq_eq_false_iff_ne]; omega
    have hw2 : IntKind.i64.wrap (((k + 1 : Nat) : Int) - 1) = k := by rw [IntKind.wrap_i64]; omega
    have hw3 : IntKind.i64.wrap (t + n) = t + n := by rw [IntKind.wrap_i64]; omega
    have hk0 : (0 : Int) ≤ k := by omega
    have hk1 : (k : Int) < l := by omega
    clear he hv
    go_quiet (fail)
    go_wp2
    go_ret
    exact ⟨_, rfl, HV.out.1, by have := HV.out.2; omega, HK.out.drewN _, k + 1, HH1.out.drewN _, by omega, hl, HC1.out.drewN _⟩
  · have hkl : k = l := by omega
    subst hkl
    clear h
    go_enter Try.func30, Try.ntmps30
    go_wp2
    go_quiet (fail)
    go_wp2
    go_ret
    exact ⟨0, rfl, by omega, by omega, (Keeps.refl _ _).drewN _, k, HH.out.drewN _, by omega, hl, HC.out.drewN _⟩

set_option maxHeartbeats 1000000 in
theorem small_anyA (A : Option Addr) (l c : Nat) (z : Nat → Int) (b : Nat) (w : World) (hd : DeckA A l c z w b) :
    Calls Try.prog 21 #[.pointer (some ⟨b, 0, none⟩)] w (DeckPostA A l c z b 0 268435455 w) := by
  have HD := Lib.hid hd
  clear hd
  go_enter Try.func21, Try.ntmps21
  go_wp2_with fail
  refine (next_anyA A l c z b 4 w HD.out (by omega) (by omega)).mono ?_
  rintro e w1 ⟨v, rfl, v0, v1, hk1, hd1⟩
  have HK1 := Lib.hid hk1
  have HD1 := Lib.hid hd1
  clear hk1 hd1 HD
  have hv : v = 0 ∨ v = 1 ∨ v = 2 ∨ v = 3 := by omega
  clear v0 v1
  rcases hv with rfl | rfl | rfl | rfl
  all_goals
    go_wp2_with fail
    refine (next_anyA A l c z b _ _ HD1.out (by omega) (by omega)).mono ?_
    rintro e w2 ⟨u, rfl, u0, u1, hk2, hd2⟩
    have HK2 : Hid (Keeps b w w2) := Lib.hid (HK1.out.trans hk2)
    have HD2 := Lib.hid hd2
    clear hk2 hd2 HD1 HK1
    go_wp2_with fail
    go_ret
    exact ⟨_, rfl, by omega, by omega, HK2.out, HD2.out⟩

set_option maxHeartbeats 400000 in
theorem deck_newA (A : Option Addr) (n c : Nat) (z : Nat → Int) (w : World) (hn : n ≤ 9223372036854775807) (hc : Cells w w.heap.size A n fun j => .int .i64 (z j)) :
    Calls Try.prog 31 #[.slice A n c] w fun e w' => e = .returned (.pointer (some ⟨w.heap.size, 0, none⟩)) ∧ Below w.heap.size w w' ∧ DeckA A n c z w' w.heap.size := by
  have HC := Lib.hid hc
  clear hc
  go_enter Try.func31, Try.ntmps31
  go_wp2
  go_ret
  exact ⟨rfl, (Below.refl _ _).alloc (Nat.le_refl _) _, 0, Has.new _ _ _, by omega, hn, HC.out.alloc (Nat.le_refl _) _⟩

set_option maxHeartbeats 1000000 in
theorem new2_anyA (A : Option Addr) (n c : Nat) (z : Nat → Int) (w : World) (hn : n ≤ 9223372036854775807) (hc : Cells w w.heap.size A n fun j => .int .i64 (z j)) :
    Calls Try.prog 11 #[.slice A n c] w fun e w' => e = .returned (.pointer (some ⟨w.heap.size, 0, none⟩)) ∧ Below w.heap.size w w' ∧ DeckA A n c z w' w.heap.size := by
  have HC := Lib.hid (deck_newA A n c z w hn hc)
  clear hc
  go_enter Try.func11, Try.ntmps11
  go_wp2_with fail
  refine HC.out.mono ?_
  rintro e w1 ⟨rfl, hb, hd⟩
  have HB := Lib.hid hb
  have HD := Lib.hid hd
  clear hb hd
  go_wp2_with fail
  go_ret
  exact ⟨rfl, HB.out, HD.out⟩
end Go.Proofs.Ytdfajopniflaaaa
