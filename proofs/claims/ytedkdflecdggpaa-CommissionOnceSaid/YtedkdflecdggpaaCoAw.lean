/- The sanity check of the laws of layer 24 returns true. -/
import Derived.Test.YtedkdflecdggpaaCoP4
import Derived.Test.YtedkdflecdggpaaCoRt
namespace Go.Proofs.Ytedkdflecdggpaa
open Go.RowKit
set_option linter.unusedVariables false

theorem Pairs.of_has {w : World} {b n : Nat} {cs : Array Value} {t : TypeId} {f g : Nat → Int} (h : Has w b cs t) (hc : ∀ j, j < n * 2 → cs[j]? = some (pairAt f g j)) : Pairs w w.heap.size (some ⟨b, 0, none⟩) n f g := fun _ =>
  ⟨_, rfl, h.lt, fun j hj => by rw [Go.WideShapes.add_plain, Nat.zero_add, h.cell]; exact hc j hj⟩

theorem aw24_rate : Co.rate 2 (nth [500000, 700000]) (nth [300000, 200000]) 600000 = (250000, 0) := by decide +kernel
theorem aw24_corr : Co.corr 800000 1000000 1000 950 = (150, 0) := by decide +kernel
theorem aw24_perr : Co.perr 3 (nth [100, 100, 100]) (nth [150, 20, 50]) 100000 200000 2 = 0 := by decide +kernel
theorem aw24_a0 : Co.acct (nth [100, 100, 100]) (nth [150, 20, 50]) 100000 200000 2 0 3 = 60 := by decide +kernel
theorem aw24_a1 : Co.acct (nth [100, 100, 100]) (nth [150, 20, 50]) 100000 200000 2 1 2 = 2 := by decide +kernel
theorem aw24_a2 : Co.acct (nth [100, 100, 100]) (nth [150, 20, 50]) 100000 200000 2 2 2 = 8 := by decide +kernel

set_option maxRecDepth 100000 in
set_option maxHeartbeats 2000000 in
theorem awake24_any (w : World) : Calls Try.prog 11 #[] w fun e w' => e = .returned (.bool true) ∧ Below w.heap.size w w' := by
  have CC := Lib.hid (corr_any 800000 1000000 1000 950)
  rw [aw24_corr] at CC
  go_enter Try.func11, Try.ntmps11
  go_wp2_with fail
  refine (crate_any _ 2 2 (nth [500000, 700000]) (nth [300000, 200000]) 600000 _ (by omega) (by omega) (Pairs.of_has (Has.new w _ _) ?_)).mono ?_
  · intro j hj
    rcases (show j = 0 ∨ j = 1 ∨ j = 2 ∨ j = 3 by omega) with rfl | rfl | rfl | rfl <;> rfl
  rw [aw24_rate]
  rintro e w1 ⟨rfl, hb⟩
  have HB : Hid (Below w.heap.size w w1) := Lib.hid (((Below.refl w.heap.size w).alloc (Nat.le_refl _) _).trans (hb.mono (by simp)))
  clear hb
  go_wp2_with fail
  refine (CC.out _).mono ?_
  rintro e w2 ⟨rfl, hb⟩
  replace HB : Hid (Below w.heap.size w w2) := Lib.hid (HB.out.trans (hb.mono HB.out.size))
  have hs := HB.out.size
  clear hb CC
  go_wp2_with fail
  refine (cprofit_any _ 3 3 (nth [100, 100, 100]) (nth [150, 20, 50]) 100000 200000 2 _ (by omega) (Pairs.of_has (Has.new w2 _ _) ?_)).mono ?_
  · intro j hj
    rcases (show j = 0 ∨ j = 1 ∨ j = 2 ∨ j = 3 ∨ j = 4 ∨ j = 5 by omega) with rfl | rfl | rfl | rfl | rfl | rfl <;> rfl
  rw [aw24_perr]
  rintro e w3 ⟨A, m, c, rfl, hb, hm, hc⟩
  rw [if_pos rfl] at hm
  subst hm
  have hq := hc rfl
  obtain ⟨b, o, rfl, hbl, _, _, _, h0⟩ := hq.get (j := 0) (by omega)
  obtain ⟨b', o', e', _, _, _, h1, _⟩ := hq.get (j := 1) (by omega)
  simp only [Option.some.injEq, Addr.mk.injEq, and_true] at e'
  obtain ⟨rfl, rfl⟩ := e'
  obtain ⟨b', o', e', _, _, _, h2, _⟩ := hq.get (j := 2) (by omega)
  simp only [Option.some.injEq, Addr.mk.injEq, and_true] at e'
  obtain ⟨rfl, rfl⟩ := e'
  rw [show (2 : Int).toNat = 2 from rfl] at h0 h1 h2
  rw [aw24_a0] at h0
  rw [aw24_a1] at h1
  rw [aw24_a2] at h2
  replace HB : Hid (Below w.heap.size w w3) := Lib.hid ((HB.out.alloc hs _).trans (hb.mono (by simp; omega)))
  clear hb hc hq
  simp only [Nat.zero_mul, Nat.one_mul, Nat.add_zero] at h0 h1 h2
  go_wp2_with fail
  go_ret
  exact ⟨rfl, HB.out⟩
end Go.Proofs.Ytedkdflecdggpaa
