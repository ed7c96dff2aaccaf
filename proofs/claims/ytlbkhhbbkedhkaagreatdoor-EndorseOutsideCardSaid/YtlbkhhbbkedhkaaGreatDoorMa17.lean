/- Package amount in plain words: what Valid, Clamp, MulDiv, Share and Sum compute, on integers; no program in sight. The contract of treatymade.Within. The deck of numbers: what its functions return lies in the range that was asked for. The deck: hours, periods, what is left; schemas in memory. Names of clauses: letters. -/
import Derived.WalkKit
import Derived.Test.YtlbkhhbbkedhkaaGreatDoorProg
import Derived.Lib.Hide
import Derived.Test.YtlbkhhbbkedhkaaGreatDoorMa03
import Derived.Outline
import Derived.Test.YtlbkhhbbkedhkaaGreatDoorMa16
import Derived.Deep.QuietTactic
import Derived.BigQuiet
import Derived.Laws.IdiomStrings
namespace Go.Proofs.YtlbkhhbbkedhkaaGreatDoor.Am

def validB (a : Int) : Bool := decide (-17592186044416 ≤ a) && decide (a ≤ 17592186044416)
def factorB (a : Int) : Bool := decide (0 ≤ a) && decide (a ≤ 17592186044416)

theorem validB_iff (a : Int) : validB a = true ↔ -17592186044416 ≤ a ∧ a ≤ 17592186044416 := by simp [validB]
theorem factorB_iff (a : Int) : factorB a = true ↔ 0 ≤ a ∧ a ≤ 17592186044416 := by simp [factorB]
theorem validB_false (a : Int) : validB a = false ↔ a < -17592186044416 ∨ 17592186044416 < a := by
  have := validB_iff a; cases h : validB a <;> simp [h] at this ⊢ <;> omega
theorem factorB_false (a : Int) : factorB a = false ↔ a < 0 ∨ 17592186044416 < a := by
  have := factorB_iff a; cases h : factorB a <;> simp [h] at this ⊢ <;> omega

/-- is the absolute value of a quotient rounded up? -/
def awayB (q r d : Int) (neg : Bool) (m : Int) : Bool :=
  if r = 0 then false else if m = 2 then neg else if m = 3 then !neg
  else if m = 5 then (if 2 * r = d then q % 2 == 1 else decide (d ≤ 2 * r)) else if m = 4 then decide (d ≤ 2 * r) else false

def absI (a : Int) : Int := if a < 0 then -a else a

/-- the absolute value of the rounded quotient -/
def mag (a num den m : Int) : Int :=
  absI a * num / den + (if awayB (absI a * num / den) (absI a * num % den) den (decide (a < 0)) m then 1 else 0)

/-- a * num / den, rounded; the error's number -/
def md (a num den m : Int) : Int × Int :=
  if m < 1 ∨ 5 < m then (0, 11)
  else if ¬ (validB a = true ∧ factorB num = true ∧ factorB den = true) then (0, 1)
  else if den = 0 then (0, 2)
  else if 17592186044416 < mag a num den m then (0, 3)
  else (if a < 0 then -mag a num den m else mag a num den m, 0)

theorem md_mode {a num den m : Int} (h : m < 1 ∨ 5 < m) : md a num den m = (0, 11) := by rw [md, if_pos h]
theorem md_range {a num den m : Int} (h : ¬ (m < 1 ∨ 5 < m)) (h2 : ¬ (validB a = true ∧ factorB num = true ∧ factorB den = true)) : md a num den m = (0, 1) := by
  rw [md, if_neg h, if_pos h2]
theorem md_zero {a num den m : Int} (h : ¬ (m < 1 ∨ 5 < m)) (h2 : validB a = true ∧ factorB num = true ∧ factorB den = true) (h3 : den = 0) : md a num den m = (0, 2) := by
  rw [md, if_neg h, if_neg (fun c => c h2), if_pos h3]
theorem md_over {a num den m : Int} (h : ¬ (m < 1 ∨ 5 < m)) (h2 : validB a = true ∧ factorB num = true ∧ factorB den = true) (h3 : ¬ den = 0)
    (h4 : 17592186044416 < mag a num den m) : md a num den m = (0, 3) := by
  rw [md, if_neg h, if_neg (fun c => c h2), if_neg h3, if_pos h4]
theorem md_ok {a num den m : Int} (h : ¬ (m < 1 ∨ 5 < m)) (h2 : validB a = true ∧ factorB num = true ∧ factorB den = true) (h3 : ¬ den = 0)
    (h4 : ¬ 17592186044416 < mag a num den m) : md a num den m = (if a < 0 then -mag a num den m else mag a num den m, 0) := by
  rw [md, if_neg h, if_neg (fun c => c h2), if_neg h3, if_neg h4]

theorem absI_nonneg (a : Int) : 0 ≤ absI a := by unfold absI; split <;> omega
theorem absI_le {a : Int} (h : validB a = true) : absI a ≤ 17592186044416 := by
  rw [validB_iff] at h; unfold absI; split <;> omega

theorem mul_bound {x y : Int} (h0 : 0 ≤ x) (h1 : x ≤ 17592186044416) (k0 : 0 ≤ y) (k1 : y ≤ 17592186044416) : 0 ≤ x * y ∧ x * y ≤ 17592186044416 * 17592186044416 :=
  ⟨Int.mul_nonneg h0 k0, Int.mul_le_mul h1 k1 k0 (by omega)⟩

/-- the result of md is a valid amount -/
theorem md_valid (a num den m : Int) : -17592186044416 ≤ (md a num den m).1 ∧ (md a num den m).1 ≤ 17592186044416 ∧ 0 ≤ (md a num den m).2 ∧ (md a num den m).2 ≤ 11 := by
  by_cases h : m < 1 ∨ 5 < m
  · rw [md_mode h]; simp
  by_cases h2' : ¬ (validB a = true ∧ factorB num = true ∧ factorB den = true)
  · rw [md_range h h2']; simp
  have h2 := Classical.not_not.1 h2'
  by_cases h3 : den = 0
  · rw [md_zero h h2 h3]; simp
  by_cases h4 : 17592186044416 < mag a num den m
  · rw [md_over h h2 h3 h4]; simp
  rw [md_ok h h2 h3 h4]
  have hn := absI_nonneg a
  have hnum := (factorB_iff num).1 h2.2.1
  have hden := (factorB_iff den).1 h2.2.2
  have : 0 ≤ absI a * num / den := Int.ediv_nonneg (Int.mul_nonneg hn hnum.1) hden.1
  have : 0 ≤ mag a num den m := by unfold mag; split <;> omega
  refine ⟨?_, ?_, by simp, by simp⟩ <;> simp only <;> split <;> omega
end Go.Proofs.YtlbkhhbbkedhkaaGreatDoor.Am
namespace Go.Proofs.YtlbkhhbbkedhkaaGreatDoor
open Go.RowKit

def Am.within (x n : Int) : Int := x % n

theorem Am.within_bound (x n : Int) (h : 0 < n) : 0 ≤ Am.within x n ∧ Am.within x n < n :=
  ⟨Int.emod_nonneg _ (by omega), Int.emod_lt_of_pos _ h⟩

theorem Am.tmod_bound (x n : Int) (h : 0 < n) : -n < x.tmod n ∧ x.tmod n < n := by
  have h1 := Int.lt_tmod_of_pos x h
  have h2 := Int.tmod_lt_of_pos x h
  omega

theorem Am.within_eq (x n : Int) (h : 0 < n) : (x.tmod n + n).tmod n = Am.within x n := by
  have hb := Am.tmod_bound x n h
  rw [Int.tmod_eq_emod_of_nonneg (by omega), Int.add_emod_right]
  unfold Am.within
  have e := Int.mul_tdiv_add_tmod x n
  have e2 : x.tmod n = x - n * x.tdiv n := by omega
  rw [e2, Int.sub_mul_emod_self_left]

set_option maxHeartbeats 400000 in
theorem within_any (x n : Int) (w : World) (h0 : 0 < n) (h1 : n ≤ 70368744177664) :
    Calls Tryz.prog 13 #[.int .i64 x, .int .i64 n] w fun e w' => e = .returned (.int .i64 (Am.within x n)) ∧ w = w' := by
  have hn : ¬ n = 0 := by omega
  have hn2 : (n == 0) = false := by rw [beq_eq_false_iff_ne]; omega
  obtain ⟨t, ht⟩ : ∃ t, x.tmod n = t := ⟨_, rfl⟩
  have hb := Am.tmod_bound x n h0
  have he := Am.within_eq x n h0
  rw [ht] at hb he
  obtain ⟨hb1, hb2⟩ := hb
  have h3 : 0 ≤ t + n := by omega
  rw [Int.tmod_eq_emod_of_nonneg (by omega)] at he
  have HE := Lib.hid he
  clear he
  go_enter Tryz.func13, Tryz.ntmps13
  go_wp2
  go_ret
  refine ⟨?_, rfl⟩
  rw [← HE.out]
  rfl

end Go.Proofs.YtlbkhhbbkedhkaaGreatDoor
namespace Go.Proofs.YtlbkhhbbkedhkaaGreatDoor
open Go.RowKit

/-- block b is a deck -/
def IsDeck (w : World) (b : Nat) : Prop := ∃ (A : Option Addr) (n c k : Nat) (z : Nat → Int),
  Has w b #[.slice A n c, .int .i64 k] 74 ∧ k ≤ n ∧ n ≤ 9223372036854775807 ∧ Cells w b A n fun j => .int .i64 (z j)

theorem IsDeck.lt {w : World} {b : Nat} (h : IsDeck w b) : b < w.heap.size := by
  obtain ⟨A, n, c, k, z, h, _⟩ := h
  exact h.lt

theorem IsDeck.below {w w' : World} {b B : Nat} (h : IsDeck w b) (hb : Below B w w') (hB : b < B) : IsDeck w' b := by
  obtain ⟨A, n, c, k, z, h, h1, h2, h3⟩ := h
  exact ⟨A, n, c, k, z, h.below hb hB, h1, h2, h3.below (hb.mono (Nat.le_of_lt hB))⟩
theorem IsDeck.alloc {w : World} {b : Nat} (h : IsDeck w b) (o : Obj) : IsDeck (w.alloc o) b :=
  h.below ((Below.refl _ _).alloc (Nat.le_refl _) o) h.lt
theorem IsDeck.drewN {w : World} {b : Nat} (h : IsDeck w b) (n : Nat) : IsDeck (w.drewN n) b := h.below (below_drewN (Below.refl w.heap.size w) n) h.lt
theorem IsDeck.far {w : World} {b : Nat} (h : IsDeck w b) {p : Addr} (hp : b < p.block) (u : Value) : IsDeck (w.setCell p u) b :=
  h.below (B := b + 1) ((Below.refl _ _).setCell hp u) (by omega)

/-- what a function of the deck returns: a number from lo to hi; the deck alone has changed -/
def DeckPost (b : Nat) (lo hi : Int) (w : World) (e : Ending) (w' : World) : Prop := ∃ v : Int, e = .returned (.int .i64 v) ∧ lo ≤ v ∧ v ≤ hi ∧ Keeps b w w' ∧ IsDeck w' b

set_option maxHeartbeats 1000000 in
theorem next_any (b : Nat) (n : Int) (w : World) (hd : IsDeck w b) (n0 : 0 < n) (n1 : n ≤ 70368744177664) :
    Calls Tryz.prog 19 #[.pointer (some ⟨b, 0, none⟩), .int .i64 n] w (DeckPost b 0 (n - 1) w) := by
  obtain ⟨A, l, c, k, z, hh, hk, hl, hc⟩ := hd
  have HH := Lib.hid hh
  obtain ⟨c0, c1, bl⟩ := hh.rules
  have HC := Lib.hid hc
  clear hc hh
  by_cases h : k < l
  · obtain ⟨ad, rfl, had, hcell⟩ := HC.out.get h
    obtain ⟨x, hx⟩ : ∃ x, z k = x := ⟨_, rfl⟩
    rw [hx] at hcell
    clear hx
    have hcell' : ∀ m u, ((w.drewN m).setCell ⟨b, 1, none⟩ u).cell? (ad.add k) = some (.int .i64 x) := fun m u => by
      rw [World.cell?_setCell_other _ _ _ _ (fun e => by have := congrArg Addr.block e; rw [add_block] at this; simp at this; omega)]
      exact hcell
    have HCELL := Lib.hid hcell'
    clear hcell' hcell
    go_enter Tryz.func19, Tryz.ntmps19
    go_wp2
    go_quiet (fail)
    go_wp2
    obtain ⟨w1, hw1⟩ : ∃ w1, (w.drewN nq).setCell ⟨b, 1, none⟩ (.int .i64 (k + 1)) = w1 := ⟨_, rfl⟩
    rw [hw1]
    have hh1 : Has w1 b #[.slice (some ad) l c, .int .i64 ((k + 1 : Nat) : Int)] 74 := by
      rw [← hw1]
      exact (HH.out.drewN nq).put 1 _
    have hcell := HCELL.out nq (.int .i64 (k + 1))
    rw [hw1] at hcell
    have HK : Hid (Keeps b w w1) := Lib.hid (by rw [← hw1]; exact ((Keeps.refl _ _).drewN _).put _ _)
    have HC1 : Hid (Cells w1 b (some ad) l fun j => .int .i64 (z j)) := Lib.hid (HC.out.keeps HK.out (Nat.le_refl _))
    have HH1 := Lib.hid hh1
    clear c0 c1 bl HCELL hw1 HC HH
    obtain ⟨c0, c1, bl⟩ := hh1.rules
    clear hh1
    obtain ⟨t, ht⟩ : ∃ t, x.tmod n = t := ⟨_, rfl⟩
    have hb := Am.tmod_bound x n n0
    have he := Am.within_eq x n n0
    rw [ht] at hb he
    obtain ⟨hb1, hb2⟩ := hb
    have h3 : 0 ≤ t + n := by omega
    rw [Int.tmod_eq_emod_of_nonneg (by omega)] at he
    have hv := Am.within_bound x n n0
    rw [← he] at hv
    have HV := Lib.hid hv
    have hn : ¬ n = 0 := by omega
    have hn2 : (n == 0) = false := by rw [beq_eq_false_iff_ne]; omega
    have hw2 : IntKind.i64.wrap (((k + 1 : Nat) : Int) - 1) = k := by rw [IntKind.wrap_i64]; omega
    have hw3 : IntKind.i64.wrap (t + n) = t + n := by rw [IntKind.wrap_i64]; omega
    have hk0 : (0 : Int) ≤ k := by omega
    have hk1 : (k : Int) < l := by omega
    clear he hv
    go_quiet (fail)
    go_wp2
    go_ret
    exact ⟨_, rfl, HV.out.1, by have := HV.out.2; omega, HK.out.drewN _, _, _, _, k + 1, z, HH1.out.drewN _, by omega, hl, HC1.out.drewN _⟩
  · have hkl : k = l := by omega
    subst hkl
    clear h
    go_enter Tryz.func19, Tryz.ntmps19
    go_wp2
    go_quiet (fail)
    go_wp2
    go_ret
    exact ⟨0, rfl, by omega, by omega, (Keeps.refl _ _).drewN _, A, k, c, k, z, HH.out.drewN _, by omega, hl, HC.out.drewN _⟩

set_option maxHeartbeats 400000 in
theorem deck_new (A : Option Addr) (n c : Nat) (z : Nat → Int) (w : World) (hn : n ≤ 9223372036854775807) (hc : Cells w w.heap.size A n fun j => .int .i64 (z j)) :
    Calls Tryz.prog 15 #[.slice A n c] w fun e w' => e = .returned (.pointer (some ⟨w.heap.size, 0, none⟩)) ∧ Below w.heap.size w w' ∧ IsDeck w' w.heap.size := by
  have HC := Lib.hid hc
  clear hc
  go_enter Tryz.func15, Tryz.ntmps15
  go_wp2
  go_ret
  exact ⟨rfl, (Below.refl _ _).alloc (Nat.le_refl _) _, A, n, c, 0, z, Has.new _ _ _, by omega, hn, HC.out.alloc (Nat.le_refl _) _⟩

set_option maxHeartbeats 1000000 in
theorem upto_any (b : Nat) (n : Int) (w : World) (hd : IsDeck w b) (n0 : 0 ≤ n) (n1 : n ≤ 35184372088832) :
    Calls Tryz.prog 55 #[.pointer (some ⟨b, 0, none⟩), .int .i64 n] w (DeckPost b 0 n w) := by
  have HD := Lib.hid hd
  clear hd
  go_enter Tryz.func55, Tryz.ntmps55
  go_wp2_with fail
  refine (next_any b 6 w HD.out (by omega) (by omega)).mono ?_
  rintro e w1 ⟨v, rfl, v0, v1, hk1, hd1⟩
  have HK1 := Lib.hid hk1
  have HD1 := Lib.hid hd1
  clear hk1 hd1 HD
  have hv : v = 0 ∨ v = 1 ∨ v = 2 ∨ v = 3 ∨ v = 4 ∨ v = 5 := by omega
  clear v0 v1
  rcases hv with rfl | rfl | rfl | rfl | rfl | rfl
  all_goals
    go_wp2_with fail
    all_goals
      refine (next_any b _ _ HD1.out (by omega) (by omega)).mono ?_
      rintro e w2 ⟨u, rfl, u0, u1, hk2, hd2⟩
      have HK2 : Hid (Keeps b w w2) := Lib.hid (HK1.out.trans hk2)
      have HD2 := Lib.hid hd2
      clear hk2 hd2 HD1 HK1
      go_wp2_with fail
      all_goals
        go_ret
        exact ⟨_, rfl, by omega, by omega, HK2.out, HD2.out⟩


set_option maxHeartbeats 400000 in
theorem range_any (b : Nat) (lo hi : Int) (w : World) (hd : IsDeck w b) (h0 : -70368744177664 ≤ lo) (h1 : lo ≤ hi) (h2 : hi - lo < 70368744177664) (h3 : hi ≤ 70368744177664) :
    Calls Tryz.prog 35 #[.pointer (some ⟨b, 0, none⟩), .int .i64 lo, .int .i64 hi] w (DeckPost b lo hi w) := by
  have HD := Lib.hid hd
  clear hd
  go_enter Tryz.func35, Tryz.ntmps35
  go_wp2_with fail
  refine (next_any b _ _ HD.out (by omega) (by omega)).mono ?_
  rintro e w2 ⟨u, rfl, u0, u1, hk2, hd2⟩
  have HK2 := Lib.hid hk2
  have HD2 := Lib.hid hd2
  clear hk2 hd2
  go_wp2_with fail
  go_ret
  exact ⟨_, rfl, by omega, by omega, HK2.out, HD2.out⟩
end Go.Proofs.YtlbkhhbbkedhkaaGreatDoor
namespace Go.Proofs.YtlbkhhbbkedhkaaGreatDoor
open Go.RowKit
set_option linter.unusedVariables false

set_option maxHeartbeats 1000000 in
theorem hour_any (b : Nat) (w : World) (hd : IsDeck w b) : Calls Tryz.prog 65 #[.pointer (some ⟨b, 0, none⟩)] w (DeckPost b 0 876599 w) := by
  have HD := Lib.hid hd
  clear hd
  go_enter Tryz.func65, Tryz.ntmps65
  go_wp2_with fail
  refine (next_any b 4 w HD.out (by omega) (by omega)).mono ?_
  rintro e w1 ⟨v, rfl, v0, v1, hk1, hd1⟩
  have HK1 := Lib.hid hk1
  have HD1 := Lib.hid hd1
  clear hk1 hd1 HD
  have hv : v = 0 ∨ v = 1 ∨ v = 2 ∨ v = 3 := by omega
  clear v0 v1
  rcases hv with rfl | rfl | rfl | rfl
  all_goals
    go_wp2_with fail
    refine (next_any b _ _ HD1.out (by omega) (by omega)).mono ?_
    rintro e w2 ⟨u, rfl, u0, u1, hk2, hd2⟩
    have HK2 : Hid (Keeps b w w2) := Lib.hid (HK1.out.trans hk2)
    have HD2 := Lib.hid hd2
    clear hk2 hd2 HD1 HK1
    go_wp2_with fail
    go_ret
    exact ⟨_, rfl, by omega, by omega, HK2.out, HD2.out⟩

set_option maxHeartbeats 1000000 in
theorem left_any (b : Nat) (w : World) (hd : IsDeck w b) : Calls Tryz.prog 34 #[.pointer (some ⟨b, 0, none⟩)] w fun r w' => (∃ v : Bool, r = .returned (.bool v)) ∧ Keeps b w w' ∧ IsDeck w' b := by
  have HD := Lib.hid hd
  obtain ⟨A, l, c, k, z, hh, _⟩ := hd
  obtain ⟨c0, c1, bl⟩ := hh.rules
  clear hh
  go_enter Tryz.func34, Tryz.ntmps34
  go_wp2_with fail
  go_quiet (fail)
  go_wp2_with fail
  go_ret
  exact ⟨⟨_, rfl⟩, (Keeps.refl _ _).drewN _, HD.out.drewN _⟩

theorem Has.put2 {w : World} {g : Nat} {x y : Value} {t : TypeId} (h : Has w g #[.int .i64 0, .int .i64 0] t) : Has ((w.setCell ⟨g, 0, none⟩ x).setCell ⟨g, 1, none⟩ y) g #[x, y] t := (h.put 0 x).put 1 y

set_option maxRecDepth 100000 in
set_option maxHeartbeats 2000000 in
theorem dperiod_any (b : Nat) (w : World) (hd : IsDeck w b) : Calls Tryz.prog 38 #[.pointer (some ⟨b, 0, none⟩)] w fun r w' => (∃ f t : Int, r = .returned (.agg #[.int .i64 f, .int .i64 t]) ∧ 0 ≤ f ∧ f < t ∧ t ≤ 876600) ∧ Keeps b w w' ∧ IsDeck w' b := by
  have HD := Lib.hid hd
  have hb := hd.lt
  clear hd
  go_enter Tryz.func38, Tryz.ntmps38
  go_upto_region 1 with (fail)
  have HZ := Lib.hid (Has.new w #[.int .i64 0, .int .i64 0] 38)
  have HK : Hid (Keeps b w (w.alloc (.cells #[.int .i64 0, .int .i64 0] 38))) := Lib.hid ((Keeps.refl b w).alloc _)
  replace HD := Lib.hid (HD.out.alloc (.cells #[.int .i64 0, .int .i64 0] 38))
  obtain ⟨W, hW⟩ : ∃ W, w.alloc (.cells #[.int .i64 0, .int .i64 0] 38) = W := ⟨_, rfl⟩
  rw [hW] at HZ HK HD ⊢
  obtain ⟨G, hG⟩ : ∃ G, w.heap.size = G := ⟨_, rfl⟩
  rw [hG] at HZ hb ⊢
  clear hW
  go_wp2_with fail
  refine (hour_any b _ HD.out).mono ?_
  rintro e w2 ⟨u, rfl, u0, u1, hk2, hd2⟩
  replace HK := Lib.hid (HK.out.trans hk2)
  replace HD := Lib.hid hd2
  replace HZ := Lib.hid (HZ.out.keeps hk2 (by omega))
  clear hk2 hd2
  go_wp2_with fail
  refine (hour_any b _ HD.out).mono ?_
  rintro e w3 ⟨v, rfl, v0, v1, hk2, hd2⟩
  replace HK := Lib.hid (HK.out.trans hk2)
  replace HD := Lib.hid hd2
  replace HZ := Lib.hid (HZ.out.keeps hk2 (by omega))
  clear hk2 hd2
  obtain ⟨mn, hmn⟩ : ∃ z, min u v = z := ⟨_, rfl⟩
  obtain ⟨mx, hmx⟩ : ∃ z, max u v = z := ⟨_, rfl⟩
  have hr : 0 ≤ mn ∧ mn ≤ mx ∧ mx ≤ 876599 := by omega
  have HR := Lib.hid hr
  have hwx : IntKind.i64.wrap (mx + 1) = mx + 1 := by rw [IntKind.wrap_i64]; omega
  have HK4 : Hid (Keeps b w ((w3.setCell ⟨G, 0, none⟩ (.int .i64 mn)).setCell ⟨G, 1, none⟩ (.int .i64 (mx + 1)))) := Lib.hid ((HK.out.far (by simp only; omega) _).far (by simp only; omega) _)
  have HD4 : Hid (IsDeck ((w3.setCell ⟨G, 0, none⟩ (.int .i64 mn)).setCell ⟨G, 1, none⟩ (.int .i64 (mx + 1))) b) := Lib.hid ((HD.out.far hb _).far hb _)
  obtain ⟨e0, e1, e2⟩ := HZ.out.rules
  clear hr
  go_wp2_with fail
  refine bodyPost_ret (results_cell_row rfl _ _ G _ _ _ _ ?_ HZ.out.put2 Tryz.underlying38 rfl (by kernel_rfl)) rfl ?_
  · rfl
  · exact ⟨⟨mn, mx + 1, rfl, HR.out.1, by have := HR.out; omega, by have := HR.out; omega⟩, HK4.out, HD4.out⟩

/-- an attribute -/
structure Att where
  name : ByteArray
  kind : Int
  nw : Nat
  ws : Nat → ByteArray
  lo : Int
  hi : Int
def Att.ok (a : Att) : Prop := nameB a.name = true ∧ (a.nw ≤ 12 ∧ namesP a.nw a.ws ∧ distP a.nw a.ws) ∧ ((a.kind = 1 ∧ 1 ≤ a.nw) ∨ (a.kind = 2 ∧ -1000000000 ≤ a.lo ∧ a.lo ≤ a.hi ∧ a.hi ≤ 1000000000) ∨ a.kind = 3)
def Att.cell (a : Att) (q : Option Addr × Nat) (k : Nat) : Value :=
  match k with
  | 0 => .string a.name
  | 1 => .int .i64 a.kind
  | 2 => .slice q.1 a.nw q.2
  | 3 => .int .i64 a.lo
  | _ => .int .i64 a.hi
def Att.cells (a : Att) (q : Option Addr × Nat) : Array Value := #[.string a.name, .int .i64 a.kind, .slice q.1 a.nw q.2, .int .i64 a.lo, .int .i64 a.hi]
theorem Att.cells_get (b : Att) (a : Option Addr × Nat) (k : Nat) (hk : k < 5) : (b.cells a).toList[k]? = some (b.cell a k) := by
  match k, hk with
  | 0, _ | 1, _ | 2, _ | 3, _ | 4, _ => rfl
  | k + 5, h => omega
/-- a schema with n attributes that are as they should be, in blocks of S -/
def SchIn (S : Nat → Prop) (w : World) (A : Option Addr) (n : Nat) (ats : Nat → Att) : Prop := (1 ≤ n ∧ n ≤ 6) ∧ ∃ Q : Nat → Option Addr × Nat, CellsS S w A (n * 5) (fun j => (ats (j / 5)).cell (Q (j / 5)) (j % 5)) ∧ ∀ i, i < n → (CellsS S w (Q i).1 (ats i).nw (fun j => .string ((ats i).ws j)) ∧ (ats i).nw ≤ (Q i).2) ∧ (ats i).ok
/-- names in blocks of S -/
def NmIn (S : Nat → Prop) (w : World) (A : Option Addr) (n : Nat) (f : Nat → ByteArray) : Prop := n ≤ 10 ∧ CellsS S w A n (fun j => .string (f j)) ∧ ∀ i, i < n → nameB (f i) = true
/-- every block but that of the deck -/
abbrev off (b : Nat) (w : World) : Nat → Prop := fun i => i ≠ b ∧ i < w.heap.size
section
variable {S T : Nat → Prop} {w w' : World} {A : Option Addr} {n b : Nat}
theorem SchIn.keep {ats : Nat → Att} (h : SchIn S w A n ats) (hk : ∀ b o, S b → w'.cell? ⟨b, o, none⟩ = w.cell? ⟨b, o, none⟩) (hS : ∀ b, S b → T b) : SchIn T w' A n ats := by
  obtain ⟨hn, Q, h1, h2⟩ := h
  exact ⟨hn, Q, h1.keep hk hS, fun i hi => ⟨⟨(h2 i hi).1.1.keep hk hS, (h2 i hi).1.2⟩, (h2 i hi).2⟩⟩
theorem NmIn.keep {f : Nat → ByteArray} (h : NmIn S w A n f) (hk : ∀ b o, S b → w'.cell? ⟨b, o, none⟩ = w.cell? ⟨b, o, none⟩) (hS : ∀ b, S b → T b) : NmIn T w' A n f := ⟨h.1, h.2.1.keep hk hS, h.2.2⟩
theorem off_cell (hk : Keeps b w w') : ∀ i o, off b w i → w'.cell? ⟨i, o, none⟩ = w.cell? ⟨i, o, none⟩ := fun i o h => World.cell?_of_block (w := w) (hk.block i h.2 h.1)
theorem off_up (hk : Keeps b w w') : ∀ i, off b w i → off b w' i := fun i h => ⟨h.1, by have := hk.size; omega⟩
theorem SchIn.keeps {ats : Nat → Att} (h : SchIn (off b w) w A n ats) (hk : Keeps b w w') : SchIn (off b w') w' A n ats := h.keep (off_cell hk) (off_up hk)
theorem NmIn.keeps {f : Nat → ByteArray} (h : NmIn (off b w) w A n f) (hk : Keeps b w w') : NmIn (off b w') w' A n f := h.keep (off_cell hk) (off_up hk)
theorem SchIn.get {k : Nat} {ats : Nat → Att} (h : SchIn S w A n ats) (hk : k < n) :
    ∃ b o q, A = some ⟨b, o, none⟩ ∧ S b ∧ w.rangeAt b (o + k * 5) ((ats k).cells q).toList ∧ CellsS S w q.1 (ats k).nw (fun j => .string ((ats k).ws j)) ∧ (ats k).nw ≤ q.2 ∧ (ats k).ok := by
  obtain ⟨_, Q, h1, h2⟩ := h
  obtain ⟨b, o, e, hS, hcc⟩ := h1 (by omega)
  refine ⟨b, o, Q k, e, hS, fun j v hj => ?_, (h2 k hk).1.1, (h2 k hk).1.2, (h2 k hk).2⟩
  have h5 : j < 5 := by
    rcases Nat.lt_or_ge j 5 with h | h
    · exact h
    · rw [List.getElem?_eq_none (by simpa [Att.cells] using h)] at hj; cases hj
  rw [Att.cells_get _ _ _ h5] at hj
  injection hj with hj
  rw [← hj, Nat.add_assoc, hcc (k * 5 + j) (by omega)]
  simp only
  rw [(at_div (by omega) h5).1, (at_div (by omega) h5).2]
end
set_option maxRecDepth 100000 in
theorem at_info : (Tryz.prog.info? 80).map (·.size) = some 5 := by kernel_rfl
end Go.Proofs.YtlbkhhbbkedhkaaGreatDoor
namespace Go.Proofs.YtlbkhhbbkedhkaaGreatDoor
open Go.RowKit
set_option linter.unusedVariables false

theorem conv2 (w : World) (x y : UInt8) : (convert 83 9 (.slice (some ⟨w.heap.size, 0, none⟩) 2 2)).run Tryz.prog (w.alloc (.cells #[.int .u8 (x.toNat : Int), .int .u8 (y.toNat : Int)] 5)) = .ok (.string ⟨#[x, y]⟩) (w.alloc (.cells #[.int .u8 (x.toNat : Int), .int .u8 (y.toNat : Int)] 5)) :=
  run_convert_bytes_back (P := Tryz.prog) _ _ _ 5 _ 2 [x, y] Tryz.underlying83 Tryz.underlying5 Tryz.underlying9 fun j hj => by
    rw [Addr.add_mid, (Has.new w #[.int .u8 (x.toNat : Int), .int .u8 (y.toNat : Int)] 5).cell]
    match j, hj with
    | 0, _ | 1, _ => rfl
theorem conv1 (w : World) (x : UInt8) : (convert 83 9 (.slice (some ⟨w.heap.size, 0, none⟩) 1 1)).run Tryz.prog (w.alloc (.cells #[.int .u8 (x.toNat : Int)] 5)) = .ok (.string ⟨#[x]⟩) (w.alloc (.cells #[.int .u8 (x.toNat : Int)] 5)) :=
  run_convert_bytes_back (P := Tryz.prog) _ _ _ 5 _ 1 [x] Tryz.underlying83 Tryz.underlying5 Tryz.underlying9 fun j hj => by
    rw [Addr.add_mid, (Has.new w #[.int .u8 (x.toNat : Int)] 5).cell]
    match j, hj with
    | 0, _ => rfl
/-- the name with a number -/
def letL (p : ByteArray) (k : Nat) : ByteArray := p ++ ⟨#[97, UInt8.ofNat (97 + k)]⟩

set_option maxRecDepth 100000 in
set_option maxHeartbeats 2000000 in
theorem letters_any (p : ByteArray) (k : Nat) (w : World) (hk : k ≤ 6) (hp : p.size ≤ 10) : Calls Tryz.prog 33 #[.string p, .int .i64 k] w fun r w' => r = .returned (.string (letL p k)) ∧ Below w.heap.size w w' := by
  have hc : k = 0 ∨ k = 1 ∨ k = 2 ∨ k = 3 ∨ k = 4 ∨ k = 5 ∨ k = 6 := by omega
  have c0 := conv2 w 97 97
  have c1 := conv2 w 97 98
  have c2 := conv2 w 97 99
  have c3 := conv2 w 97 100
  have c4 := conv2 w 97 101
  have c5 := conv2 w 97 102
  have c6 := conv2 w 97 103
  simp only [show ((97 : UInt8).toNat : Int) = 97 from rfl, show ((98 : UInt8).toNat : Int) = 98 from rfl, show ((99 : UInt8).toNat : Int) = 99 from rfl, show ((100 : UInt8).toNat : Int) = 100 from rfl, show ((101 : UInt8).toNat : Int) = 101 from rfl, show ((102 : UInt8).toNat : Int) = 102 from rfl, show ((103 : UInt8).toNat : Int) = 103 from rfl] at c0 c1 c2 c3 c4 c5 c6
  rcases hc with rfl | rfl | rfl | rfl | rfl | rfl | rfl
  all_goals
    go_enter Tryz.func33, Tryz.ntmps33
    go_wp2_with fail
    go_ret
    exact ⟨rfl, (Below.refl _ _).alloc (Nat.le_refl _) _⟩

/-- the prefixes that occur -/
def prefP (p : ByteArray) : Prop := p = ⟨#[99, 45]⟩ ∨ p = ⟨#[101, 49, 45]⟩ ∨ p = ⟨#[101, 50, 45]⟩
theorem prefP.size {p : ByteArray} (h : prefP p) : p.size ≤ 10 := by
  rcases h with rfl | rfl | rfl
  · exact (by decide : 2 ≤ 10)
  · exact (by decide : 3 ≤ 10)
  · exact (by decide : 3 ≤ 10)
set_option maxRecDepth 100000 in
theorem letL_name {p : ByteArray} {k : Nat} (h : prefP p) (hk : k ≤ 6) : nameB (letL p k) = true := by
  have hc : k = 0 ∨ k = 1 ∨ k = 2 ∨ k = 3 ∨ k = 4 ∨ k = 5 ∨ k = 6 := by omega
  rcases h with rfl | rfl | rfl <;> rcases hc with rfl | rfl | rfl | rfl | rfl | rfl | rfl
  all_goals decide +kernel
theorem letL_inj {p : ByteArray} {j k : Nat} (hj : j ≤ 6) (hk : k ≤ 6) (h : letL p j = letL p k) : j = k := by
  have h1 := congrArg (fun b : ByteArray => b.data.toList) h
  unfold letL at h1
  simp only [ByteArray.data_append, Array.toList_append, List.append_cancel_left_eq] at h1
  have h2 : UInt8.ofNat (97 + j) = UInt8.ofNat (97 + k) := by
    injection h1 with _ h1
    injection h1
  have h3 := congrArg UInt8.toNat h2
  simp only [UInt8.toNat_ofNat'] at h3
  omega
end Go.Proofs.YtlbkhhbbkedhkaaGreatDoor
