/- The reference's tables of a treaty's fields, and the same faults in its order. -/
import Derived.Test.YtlmgfcgakdanaaaTyE
namespace Go.Proofs.Ytlmgfcgakdanaaa
open Go.RowKit
set_option linter.unusedVariables false

namespace Ty
def rloL (k : Int) : List Int :=
  if k = 1 then [-1, 1, -1, -1, -1, 0, -1, -1, -1, -1] else if k = 2 then [-1, -1, 1, 1, -1, -1, -1, -1, -1, -1] else if k = 3 then [1, 1, -1, -1, -1, -1, -1, -1, -1, -1]
  else if k = 4 then [-1, -1, -1, -1, 0, 1, -1, 0, 0, 0] else if k = 5 then [-1, -1, -1, -1, 0, 1, 1, 0, 0, -1] else [-1, -1, -1, -1, 0, 1, -1, -1, -1, -1]
def rlo (k : Int) (i : Nat) : Int := (rloL k).getD i 0
def rhi (i : Nat) : Int := ([1048576, 1000000, 1073741824, 100, 1073741824, 1073741824, 8784, 1073741824, 1073741824, 1000000000] : List Int).getD i 0

theorem rtab (k : Int) (h0 : 1 ≤ k) (h1 : k ≤ 6) (i : Nat) (hi' : i < 10) : (rlo k i < 0 ∧ lo k i = 0 ∧ hi k i = 0) ∨ (0 ≤ rlo k i ∧ ¬ (lo k i = 0 ∧ hi k i = 0) ∧ rlo k i = lo k i ∧ rhi i = hi k i) := by
  have hk : k = 1 ∨ k = 2 ∨ k = 3 ∨ k = 4 ∨ k = 5 ∨ k = 6 := by omega
  have hj : i = 0 ∨ i = 1 ∨ i = 2 ∨ i = 3 ∨ i = 4 ∨ i = 5 ∨ i = 6 ∨ i = 7 ∨ i = 8 ∨ i = 9 := by omega
  rcases hk with rfl | rfl | rfl | rfl | rfl | rfl <;> rcases hj with rfl | rfl | rfl | rfl | rfl | rfl | rfl | rfl | rfl | rfl <;> decide
theorem tab10 (k : Int) (h0 : 1 ≤ k) (h1 : k ≤ 6) : lo k 10 = 0 ∧ hi k 10 = 1073741824 := by
  have hk : k = 1 ∨ k = 2 ∨ k = 3 ∨ k = 4 ∨ k = 5 ∨ k = 6 := by omega
  rcases hk with rfl | rfl | rfl | rfl | rfl | rfl <;> decide

/-- the reference's faults of a field -/
def rc1 (k : Int) (v : Nat → Int) (i : Nat) : Int := if rlo k i < 0 ∧ v i ≠ 0 then 20 else 0
def rc2 (k : Int) (v : Nat → Int) (i : Nat) : Int := if 0 ≤ rlo k i ∧ (v i < rlo k i ∨ rhi i < v i) then 1 else 0
theorem rc1_eq {k : Int} (h0 : 1 ≤ k) (h1 : k ≤ 6) (v : Nat → Int) (i : Nat) (hi' : i < 10) : fc1 k v i = rc1 k v i := by
  unfold fc1 rc1
  rcases rtab k h0 h1 i hi' with ⟨a, b, c⟩ | ⟨a, b, c, d⟩
  · by_cases e : v i = 0
    · rw [if_neg (fun x => x.2 e), if_neg (fun x => x.2 e)]
    · rw [if_pos ⟨⟨b, c⟩, e⟩, if_pos ⟨a, e⟩]
  · rw [if_neg (fun x => b x.1), if_neg (fun x => by have := x.1; omega)]
theorem rc2_eq {k : Int} (h0 : 1 ≤ k) (h1 : k ≤ 6) (v : Nat → Int) (i : Nat) (hi' : i < 10) : fc2 k v i = rc2 k v i := by
  unfold fc2 rc2
  rcases rtab k h0 h1 i hi' with ⟨a, b, c⟩ | ⟨a, b, c, d⟩
  · rw [if_neg (fun x => x.1 ⟨b, c⟩), if_neg (fun x => by have := x.1; omega)]
  · rw [c, d]
    by_cases e : lo k i ≤ v i ∧ v i ≤ hi k i
    · rw [if_neg (fun x => x.2 e), if_neg (fun x => by have := x.2; omega)]
    · rw [if_pos ⟨b, e⟩, if_pos ⟨by omega, by omega⟩]

theorem scan_snoc (c : Nat → Int) (n i : Nat) : scan c (n + 1) i = if scan c n i = 0 then c (i + n) else scan c n i := by
  induction n generalizing i with
  | zero =>
    rw [scan, scan, scan, if_pos rfl, Nat.add_zero]
    split
    · rename_i h; rw [h]
    · rfl
  | succ n ih =>
    rw [scan]
    by_cases h : c i = 0
    · rw [if_pos h, ih (i + 1)]
      have e : scan c (n + 1) i = scan c n (i + 1) := by rw [scan, if_pos h]
      rw [e, show i + 1 + n = i + (n + 1) by omega]
    · rw [if_neg h]
      have e : scan c (n + 1) i = c i := by rw [scan, if_neg h]
      rw [e, if_neg h]

theorem firstErr_one (a : Int) : firstErr [a] = a := by
  by_cases h : a = 0
  · rw [h, firstErr_go]; rfl
  · exact firstErr_stop h
theorem firstErr_app (l m : List Int) : firstErr (firstErr l :: m) = firstErr (l ++ m) := by
  induction l with
  | nil => exact firstErr_go m
  | cons a l ih =>
    by_cases h : a = 0
    · rw [h, firstErr_go, ih]; exact (firstErr_go (l ++ m)).symm
    · rw [firstErr_stop h, firstErr_stop h]; exact (firstErr_stop h).symm
theorem firstErr_two {P Q R : Prop} [Decidable P] [Decidable Q] [Decidable R] (h : P ∨ Q ↔ R) (l : List Int) : firstErr ((if P then 20 else 0) :: (if Q then 20 else 0) :: l) = firstErr ((if R then 20 else 0) :: l) := by
  by_cases p : P
  · rw [if_pos p, if_pos (h.1 (.inl p)), firstErr_stop (by omega), firstErr_stop (by omega)]
  · rw [if_neg p, firstErr_go]
    by_cases q : Q
    · rw [if_pos q, if_pos (h.1 (.inr q))]
    · rw [if_neg q, if_neg (fun r => by rcases h.2 r with x | x; exact p x; exact q x)]

/-- the faults of the fields in the reference's words -/
theorem ferr_ref {t : Ty} (h0 : 1 ≤ t.kind) (h1 : t.kind ≤ 6) (l : List Int) : firstErr (t.ferr :: l) =
    firstErr (scan (rc1 t.kind t.val) 10 0 :: (if (¬ (t.kind = 4 ∨ t.kind = 5) ∧ 0 < t.nre) ∨ (t.timed = true ∧ t.nre = 0) then 20 else 0) :: scan (rc2 t.kind t.val) 10 0 :: (if 0 ≤ t.prem ∧ t.prem ≤ 1073741824 then 0 else 1) :: l) := by
  have t10 := tab10 t.kind h0 h1
  have s1 : scan (fc1 t.kind t.val) 11 0 = scan (rc1 t.kind t.val) 10 0 := by
    rw [scan_snoc, scan_congr _ (rc1 t.kind t.val) 10 0 fun j _ hj => rc1_eq h0 h1 _ j (by omega)]
    have e : fc1 t.kind t.val (0 + 10) = 0 := if_neg (fun x => by have := x.1; rw [Nat.zero_add, t10.2] at this; omega)
    rw [e]
    split <;> omega
  have e : fc2 t.kind t.val (0 + 10) = if 0 ≤ t.prem ∧ t.prem ≤ 1073741824 then 0 else 1 := by
    unfold fc2
    have hv : t.val 10 = t.prem := rfl
    rw [Nat.zero_add, t10.1, t10.2, hv]
    by_cases c : 0 ≤ t.prem ∧ t.prem ≤ 1073741824
    · rw [if_pos c]
      exact if_neg (fun x => x.2 c)
    · rw [if_neg c]
      exact if_pos ⟨by omega, c⟩
  obtain ⟨p, hp⟩ : ∃ p : Int, (if 0 ≤ t.prem ∧ t.prem ≤ 1073741824 then 0 else 1) = p := ⟨_, rfl⟩
  rw [hp] at e ⊢
  obtain ⟨s, hs⟩ : ∃ p : Int, scan (rc2 t.kind t.val) 10 0 = p := ⟨_, rfl⟩
  have s2 : scan (fc2 t.kind t.val) 11 0 = firstErr [s, p] := by
    rw [scan_snoc, scan_congr _ (rc2 t.kind t.val) 10 0 fun j _ hj => rc2_eq h0 h1 _ j (by omega), e, hs]
    by_cases c : s = 0
    · rw [c, if_pos rfl, firstErr_go, firstErr_one]
    · rw [if_neg c, firstErr_stop c]
  rw [hs]
  obtain ⟨q, hq⟩ : ∃ p : Int, scan (rc1 t.kind t.val) 10 0 = p := ⟨_, rfl⟩
  rw [hq] at s1 ⊢
  unfold ferr
  rw [firstErr_app, s1, s2]
  show firstErr (q :: (if 0 < t.nre ∧ t.kind ≠ 4 ∧ t.kind ≠ 5 then 20 else 0) :: (if t.nre = 0 ∧ t.timed = true then 20 else 0) :: firstErr [s, p] :: l) = _
  by_cases c1 : q = 0
  · rw [c1, firstErr_go, firstErr_go, firstErr_two (R := (¬ (t.kind = 4 ∨ t.kind = 5) ∧ 0 < t.nre) ∨ (t.timed = true ∧ t.nre = 0)) (by
      constructor
      · rintro (⟨a, b, c⟩ | ⟨a, b⟩)
        · exact .inl ⟨fun k => by rcases k with k | k; exact b k; exact c k, a⟩
        · exact .inr ⟨b, a⟩
      · rintro (⟨a, b⟩ | ⟨a, b⟩)
        · exact .inl ⟨b, fun k => a (.inl k), fun k => a (.inr k)⟩
        · exact .inr ⟨b, a⟩)]
    by_cases c2 : (¬ (t.kind = 4 ∨ t.kind = 5) ∧ 0 < t.nre) ∨ (t.timed = true ∧ t.nre = 0)
    · rw [if_pos c2, firstErr_stop (by omega), firstErr_stop (by omega)]
    · rw [if_neg c2, firstErr_go, firstErr_go, firstErr_app]; rfl
  · rw [firstErr_stop c1, firstErr_stop c1]
end Ty

theorem nums_of_has {w : World} {g n : Nat} {cs : Array Value} {t : TypeId} {f : Nat → Int} (h : Has w g cs t) (hc : ∀ j, j < n → cs[j]? = some (.int .i64 (f j))) : Nums w w.heap.size (some ⟨g, 0, none⟩) n f := fun _ =>
  ⟨_, rfl, h.lt, fun j hj => by rw [Go.WideShapes.add_plain, Nat.zero_add, h.cell]; exact hc j hj⟩

/-- ten numbers in a new block -/
def TenPost (f : Nat → Int) (w : World) (e : Ending) (w' : World) : Prop := ∃ g, e = .returned (.slice (some ⟨g, 0, none⟩) 10 10) ∧ Nums w' w'.heap.size (some ⟨g, 0, none⟩) 10 f ∧ Below w.heap.size w w'

theorem lt10 {P : Nat → Prop} (h : P 0 ∧ P 1 ∧ P 2 ∧ P 3 ∧ P 4 ∧ P 5 ∧ P 6 ∧ P 7 ∧ P 8 ∧ P 9) (j : Nat) (hj : j < 10) : P j := by
  have hj : j = 0 ∨ j = 1 ∨ j = 2 ∨ j = 3 ∨ j = 4 ∨ j = 5 ∨ j = 6 ∨ j = 7 ∨ j = 8 ∨ j = 9 := by omega
  obtain ⟨h0, h1, h2, h3, h4, h5, h6, h7, h8, h9⟩ := h
  rcases hj with rfl | rfl | rfl | rfl | rfl | rfl | rfl | rfl | rfl | rfl <;> assumption

set_option maxRecDepth 100000 in
set_option maxHeartbeats 2000000 in
theorem numbers_any (t : Ty) (w : World) : Calls Try.prog 55 #[.agg t.cells] w (TenPost t.val w) := by
  go_enter Try.func55, Try.ntmps55
  go_upto_region 1 with (fail)
  have hx : t.Box (w.alloc (.cells t.cells 27)) w.heap.size := Has.new _ _ _
  have hb1 : Below w.heap.size w (w.alloc (.cells t.cells 27)) := (Below.refl _ _).alloc (Nat.le_refl _) _
  obtain ⟨w1, hw1⟩ : ∃ w1, w.alloc (.cells t.cells 27) = w1 := ⟨_, rfl⟩
  rw [hw1] at hx hb1 ⊢
  clear hw1
  obtain ⟨x0, x1, x2, x3, x4, x5, x6, x7, x8, x9, x10, x11, x12, x13, x14, x15, x16, x17, x18, x19, x20, bl⟩ := Ty.rules hx
  have HB := Lib.hid hb1
  clear hx hb1 x0 x1 x2 x3 x4 x5 x15 x16 x17 x19 x20
  go_wp2_with fail
  go_ret
  exact ⟨_, rfl, nums_of_has (Has.new w1 _ _) (lt10 ⟨rfl, rfl, rfl, rfl, rfl, rfl, rfl, rfl, rfl, rfl⟩), HB.out.alloc (Nat.le_of_lt bl) _⟩

set_option maxRecDepth 100000 in
set_option maxHeartbeats 2000000 in
theorem least_any (k : Int) (w : World) (h0 : 1 ≤ k) (h1 : k ≤ 6) : Calls Try.prog 56 #[.int .i64 k] w (TenPost (Ty.rlo k) w) := by
  have hk : k = 1 ∨ k = 2 ∨ k = 3 ∨ k = 4 ∨ k = 5 ∨ k = 6 := by omega
  rcases hk with rfl | rfl | rfl | rfl | rfl | rfl
  all_goals
    go_enter Try.func56, Try.ntmps56
    go_wp2_with fail
    go_ret
    exact ⟨_, rfl, nums_of_has (Has.new w _ _) (lt10 ⟨rfl, rfl, rfl, rfl, rfl, rfl, rfl, rfl, rfl, rfl⟩), (Below.refl _ _).alloc (Nat.le_refl _) _⟩
end Go.Proofs.Ytlmgfcgakdanaaa
