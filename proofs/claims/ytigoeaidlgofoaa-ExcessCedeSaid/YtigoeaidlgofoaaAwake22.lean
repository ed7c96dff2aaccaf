/- The sanity check of the laws of layer 22 returns true. -/
import Derived.Test.YtigoeaidlgofoaaExR
import Derived.Test.YtigoeaidlgofoaaExS
namespace Go.Proofs.Ytigoeaidlgofoaa
open Go.RowKit

theorem Pairs.of_has {w : World} {b n : Nat} {cs : Array Value} {t : TypeId} {f g : Nat → Int} (h : Has w b cs t) (hc : ∀ j, j < n * 2 → cs[j]? = some (pairAt f g j)) : Pairs w w.heap.size (some ⟨b, 0, none⟩) n f g := fun _ =>
  ⟨_, rfl, h.lt, fun j hj => by rw [Go.WideShapes.add_plain, Nat.zero_add, h.cell]; exact hc j hj⟩
theorem Nums.of_has {w : World} {b n : Nat} {cs : Array Value} {t : TypeId} {f : Nat → Int} (h : Has w b cs t) (hc : ∀ j, j < n → cs[j]? = some (.int .i64 (f j))) : Nums w w.heap.size (some ⟨b, 0, none⟩) n f := fun _ =>
  ⟨_, rfl, h.lt, fun j hj => by rw [Go.WideShapes.add_plain, Nat.zero_add, h.cell]; exact hc j hj⟩

theorem aw22_terr : Ex.terr 150 3 (nth [0, 100, 130]) (nth [100, 30, 100]) = 0 := by decide +kernel
theorem aw22_layer (j : Nat) (h : j < 3) : Ex.layer 150 (nth [0, 100, 130] j) (nth [100, 30, 100] j) = nth [100, 30, 20] j := by
  rcases (show j = 0 ∨ j = 1 ∨ j = 2 by omega) with rfl | rfl | rfl <;> decide +kernel
theorem aw22_stab : Ex.stab 100 2 (nth [0, 10]) (nth [100, 200]) 2 (nth [0, 10]) (nth [50, 100]) = (1500000, 0) := by decide +kernel
theorem aw22_one : Ex.layer 150 100 30 = 30 := by decide +kernel

set_option maxRecDepth 100000 in
set_option maxHeartbeats 2000000 in
theorem awake22_any (w : World) : Calls Try.prog 16 #[] w fun e w' => e = .returned (.bool true) ∧ Below w.heap.size w w' := by
  have CL : Hid (∀ W : World, Calls Try.prog 14 #[.int .i64 150, .int .i64 100, .int .i64 30] W (IntPost 30 W)) := Lib.hid fun W => by
    have := layer_any 150 100 30 W
    rw [aw22_one] at this
    exact this
  go_enter Try.func16, Try.ntmps16
  go_wp2_with fail
  refine (tower_any 150 _ 3 3 (nth [0, 100, 130]) (nth [100, 30, 100]) _ (by omega) (Pairs.of_has (Has.new w _ _) ?_)).mono ?_
  · intro j hj
    rcases (show j = 0 ∨ j = 1 ∨ j = 2 ∨ j = 3 ∨ j = 4 ∨ j = 5 by omega) with rfl | rfl | rfl | rfl | rfl | rfl <;> rfl
  rintro e w1 ⟨A, m, c, rfl, hb, hm, hc⟩
  rw [aw22_terr, if_pos rfl] at hm
  subst hm
  have HC := Lib.hid (hc.congr aw22_layer)
  have HB : Hid (Below w.heap.size w w1) := Lib.hid (((Below.refl w.heap.size w).alloc (Nat.le_refl _) _).trans (hb.mono (by simp)))
  have hs := HB.out.size
  rw [aw22_terr]
  clear hb hc
  go_wp2_with fail
  refine (exstab_any 100 _ 2 2 (nth [0, 10]) (nth [100, 200]) _ 2 2 (nth [0, 10]) (nth [50, 100]) _ (by omega) (by omega) (Pairs.of_has ((Has.new w1 _ _).alloc _) ?_) (Pairs.of_has (Has.new' (w1.alloc _) (w1.heap.size + 1) _ _ (by simp)) ?_)).mono ?_
  · intro j hj
    rcases (show j = 0 ∨ j = 1 ∨ j = 2 ∨ j = 3 by omega) with rfl | rfl | rfl | rfl <;> rfl
  · intro j hj
    rcases (show j = 0 ∨ j = 1 ∨ j = 2 ∨ j = 3 by omega) with rfl | rfl | rfl | rfl <;> rfl
  rw [aw22_stab]
  rintro e w2 ⟨rfl, hb⟩
  have HB2 : Hid (Below w.heap.size w w2) := Lib.hid (((HB.out.alloc hs _).alloc (by simp; omega) _).trans (hb.mono (by simp; omega)))
  have HC2 := Lib.hid ((HC.out.below (((Below.refl w1.heap.size w1).alloc (Nat.le_refl _) _).alloc (by simp) _ |>.trans (hb.mono (by simp; omega)))))
  have hs2 := HB2.out.size
  have HS12 : Hid (w1.heap.size ≤ w2.heap.size) := Lib.hid (by have := hb.size; simp at this; omega)
  clear hb
  go_wp2_with fail
  refine (CL.out _).mono ?_
  rintro e w3 ⟨rfl, hb⟩
  have HB3 : Hid (Below w.heap.size w w3) := Lib.hid (HB2.out.trans (hb.mono hs2))
  have hs12 : w1.heap.size ≤ w2.heap.size := HS12.out
  have HC3 := Lib.hid (HC2.out.below (hb.mono hs12))
  have hs3 := HB3.out.size
  have hs13 : w1.heap.size ≤ w3.heap.size := by have := hb.size; omega
  clear hb
  go_wp2_with fail
  refine (same_yes _ _ 3 _ _ (nth [100, 30, 20]) _ _ _ (by omega) (HC3.out.alloc ?_ _) (Nums.of_has (Has.new w3 _ _) ?_)).mono ?_
  · exact hs13
  · intro j hj
    rcases (show j = 0 ∨ j = 1 ∨ j = 2 by omega) with rfl | rfl | rfl <;> rfl
  rintro e w4 ⟨rfl, nq, rfl⟩
  go_wp2_with fail
  go_ret
  exact ⟨rfl, below_drewN (HB3.out.alloc hs3 _) _⟩
end Go.Proofs.Ytigoeaidlgofoaa
