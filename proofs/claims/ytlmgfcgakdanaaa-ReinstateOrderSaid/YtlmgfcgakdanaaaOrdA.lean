/- The order that the deck makes: a permutation (chapter 28's copy, without the exchange). -/
import Derived.Test.YtlmgfcgakdanaaaDkP
import Derived.Test.YtlmgfcgakdanaaaOwnN
namespace Go.Proofs.Ytlmgfcgakdanaaa
open Go.RowKit
set_option linter.unusedVariables false

namespace Xn
/-- the sum of the first k values -/
def sum (p : Nat → Int) : Nat → Int
  | 0 => 0
  | k + 1 => sum p k + p k
theorem sum_congr {p q : Nat → Int} : ∀ k, (∀ j, j < k → p j = q j) → sum p k = sum q k := fun k => by
  induction k with
  | zero => intro _; rfl
  | succ k ih => intro h; rw [sum, sum, ih fun j hj => h j (by omega), h k (by omega)]
/-- one value is another -/
theorem sum_set {p : Nat → Int} {j : Nat} {v : Int} : ∀ k, j < k → sum (fun t => if t = j then v else p t) k = sum p k - p j + v := fun k => by
  induction k with
  | zero => intro h; omega
  | succ k ih =>
    intro h
    rw [sum, sum]
    by_cases e : j = k
    · subst e
      rw [if_pos rfl, sum_congr (q := p) j fun t ht => if_neg (by omega)]
      omega
    · rw [ih (by omega), if_neg (by omega)]
      omega
/-- the first i values of P are 0 .. i - 1, in some order -/
structure Perm (P : Nat → Int) (i : Nat) : Prop where
  bd : ∀ j, j < i → 0 ≤ P j ∧ P j < i
  sm : ∀ φ : Int → Int, sum (fun j => φ (P j)) i = sum (fun j => φ (j : Int)) i
theorem Perm.zero (P : Nat → Int) : Perm P 0 := ⟨fun j hj => by omega, fun _ => rfl⟩
/-- one step of the shuffle -/
def stepP (P : Nat → Int) (i k : Nat) (t : Nat) : Int := if t = k then (i : Int) else if t = i then P k else P t
theorem Perm.step {P : Nat → Int} {i k : Nat} (h : Perm P i) (hk : k ≤ i) : Perm (stepP P i k) (i + 1) := by
  refine ⟨fun j hj => ?_, fun φ => ?_⟩
  · unfold stepP
    by_cases e1 : j = k
    · rw [if_pos e1]; omega
    · rw [if_neg e1]
      by_cases e2 : j = i
      · rw [if_pos e2]
        have := h.bd k (by omega)
        omega
      · rw [if_neg e2]
        have := h.bd j (by omega)
        omega
  · rw [sum, sum, ← h.sm φ]
    by_cases e : k = i
    · subst e
      have e1 : stepP P k k k = k := if_pos rfl
      rw [e1, sum_congr (q := fun j => φ (P j)) k fun j hj => by unfold stepP; rw [if_neg (by omega), if_neg (by omega)]]
    · have e1 : stepP P i k i = P k := by unfold stepP; rw [if_neg (by omega), if_pos rfl]
      have e2 : sum (fun j => φ (stepP P i k j)) i = sum (fun t => if t = k then φ i else φ (P t)) i := sum_congr i fun j hj => by
        unfold stepP
        by_cases e3 : j = k
        · rw [if_pos e3, if_pos e3]
        · rw [if_neg e3, if_neg (by omega), if_neg e3]
      rw [e1, e2, sum_set (p := fun t => φ (P t)) i (by omega)]
      omega
end Xn

/-- what Order returns -/
def OrderPost (b n : Nat) (w : World) (e : Ending) (w' : World) : Prop := ∃ (g : Nat) (P : Nat → Int), e = .returned (.slice (some ⟨g, 0, none⟩) n n) ∧ w.heap.size ≤ g ∧ Nums w' w'.heap.size (some ⟨g, 0, none⟩) n P ∧ Xn.Perm P n ∧ Keeps b w w' ∧ IsDeck w' b

set_option maxRecDepth 100000 in
theorem i64_info' : (Try.prog.info? 3).map (fun i => (i.zero, i.size, i.bytes)) = some (some (.int .i64 0), 1, 8) := by kernel_rfl

set_option maxRecDepth 100000 in
set_option maxHeartbeats 2000000 in
theorem dorder_any (b n : Nat) (w : World) (hd : IsDeck w b) (hn : n ≤ 100) :
    Calls Try.prog 24 #[.pointer (some ⟨b, 0, none⟩), .int .i64 n] w (OrderPost b n w) := by
  have hb := hd.lt
  have hni : (n : Int) ≤ 100 := by omega
  have hni0 : (0 : Int) ≤ n := by omega
  obtain ⟨i0, hi0, hz0, hz1, hz2⟩ := info_parts i64_info'
  obtain ⟨W1, hmk, ho, hg⟩ := run_make_full (P := Try.prog) w w.heap.size 24 3 i0 (.int .i64 0) 1 Try.underlying24 hi0 hz0 hz1 .i64 .i64 n (by rw [hz2]; omega) (by unfold maxLen; omega) (Nat.le_refl _)
  have hrow : Row W1 w.heap.size n 3 (fun j => .int .i64 ((fun _ => 0 : Nat → Int) j)) := by
    have := Row.made (h := fun j => .int .i64 ((fun _ => 0 : Nat → Int) j)) ho (fun j hj => by rw [Nat.mul_one] at hj; simp [Value.cells, madeCells, hj, Nat.mod_one])
    rwa [Nat.mul_one] at this
  have hb1 : Below w.heap.size w W1 := (Below.refl _ _).grown hg (Nat.le_refl _) (fun _ h => by cases h)
  have HR := Lib.hid hrow
  have HD := Lib.hid (hd.below hb1 hb)
  have HK : Hid (Keeps b w W1) := Lib.hid (Keeps.of_below hb1 b)
  obtain ⟨G, hG⟩ : ∃ G, w.heap.size = G := ⟨_, rfl⟩
  have hbG : b < G := by omega
  have hwG : w.heap.size ≤ G := by omega
  rw [hG] at HR hmk
  clear hd hi0 hz0 hz1 hz2 ho hg hrow hb1 hG
  go_enter Try.func24, Try.ntmps24
  go_wp2_with fail
  clear hmk
  go_loopw [6, 7] (fun ix _ wr => ∃ (i : Nat) (P : Nat → Int), i ≤ n ∧ ix = .int .i64 i ∧ Hid (Row wr G n 3 (fun j => .int .i64 (P j))) ∧ Hid (Xn.Perm P i) ∧ Hid (Keeps b w wr) ∧ Hid (IsDeck wr b)) (fun ix _ _ => n - (intOf ix).toNat)
  case atStart => exact ⟨0, fun _ => 0, Nat.zero_le _, rfl, HR, Lib.hid (Xn.Perm.zero _), HK, HD⟩
  case round =>
    clear HR HK HD
    obtain ⟨i, P, hi, rfl, HR, HPM, HK, HD⟩ := hrel
    by_cases hlt : i < n
    · have hi0 : (0 : Int) ≤ i := by omega
      have hi1 : (i : Int) < n := by omega
      go_wp2_with fail
      refine (next_any b _ _ HD.out (by omega) (by omega)).mono ?_
      rintro e w2 ⟨k0, rfl, k1, k2, hk2, hd2⟩
      replace HR := Lib.hid (HR.out.keeps hk2 (by omega))
      replace HK := Lib.hid (HK.out.trans hk2)
      replace HD := Lib.hid hd2
      clear hk2 hd2
      obtain ⟨k, rfl⟩ : ∃ k : Nat, k0 = k := ⟨k0.toNat, by omega⟩
      have hki : k ≤ i := by omega
      have hk1' : (k : Int) < n := by omega
      have hc0 := HR.out.cell k (by omega)
      have hc1 := HR.out.cell i hlt
      have hf0 := HR.out.free k
      have hf1 := HR.out.free i
      have HR2 : Hid (Row ((w2.setCell ⟨G, i, none⟩ (.int .i64 (P k))).setCell ⟨G, k, none⟩ (.int .i64 (i : Int))) G n 3 (fun j => .int .i64 (Xn.stepP P i k j))) := Lib.hid (((HR.out.put i (.int .i64 (P k))).put k (.int .i64 (i : Int))).congr fun j hj => by
        unfold Xn.stepP
        by_cases e1 : j = k
        · rw [if_pos e1, if_pos e1]
        · rw [if_neg e1, if_neg e1]
          by_cases e2 : j = i
          · rw [if_pos e2, if_pos e2]
          · rw [if_neg e2, if_neg e2])
      have HPM2 := Lib.hid (HPM.out.step hki)
      obtain ⟨x, hx⟩ : ∃ x, P k = x := ⟨_, rfl⟩
      obtain ⟨y, hy⟩ : ∃ x, P i = x := ⟨_, rfl⟩
      rw [hx] at hc0 HR2
      rw [hy] at hc1
      have hsome : (w2.setCell ⟨G, i, none⟩ (.int .i64 x)).cell? ⟨G, k, none⟩ = some (.int .i64 x) := by
        by_cases e : k = i
        · subst e
          exact World.cell?_setCell_same' _ _ _ (by rw [hc0]; rfl)
        · rw [World.cell?_setCell_other _ _ _ _ (fun h => by injection h with _ h; omega)]
          exact hc0
      clear hx hy HR
      go_wp2_with fail
      go_roundw
      case rel => exact ⟨i + 1, _, by omega, by go_num, HR2, HPM2, Lib.hid ((HK.out.far (by simp only; omega) _).far (by simp only; omega) _), Lib.hid ((HD.out.far hbG _).far hbG _)⟩
      case measure => simp [intOf]; omega
    · obtain rfl : i = n := by omega
      go_wp2_with fail
      go_ret
      exact ⟨G, P, rfl, hwG, HR.out.cells, HPM.out, HK.out, HD.out⟩
end Go.Proofs.Ytlmgfcgakdanaaa
