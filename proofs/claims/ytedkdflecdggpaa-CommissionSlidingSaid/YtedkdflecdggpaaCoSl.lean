/- commission.Sliding and the reference's. -/
import Derived.Test.YtedkdflecdggpaaCoMath3
import Derived.Test.YtedkdflecdggpaaCoRr
import Derived.Test.YtedkdflecdggpaaCoR
namespace Go.Proofs.Ytedkdflecdggpaa
open Go.RowKit
set_option linter.unusedVariables false

set_option maxHeartbeats 1000000 in
theorem csliding_any (A : Option Addr) (n c : Nat) (f g : Nat → Int) (p l : Int) (w : World) (hn : n ≤ 9223372036854775807) (hnc : n ≤ c) (hp : Pairs w w.heap.size A n f g) :
    Calls Try.prog 29 #[.slice A n c, .int .i64 p, .int .i64 l] w (PairPost (Co.sliding n f g p l) w) := by
  have C1 := Lib.hid (cratio_any p l w)
  by_cases h1 : (Co.ratio p l).2 = 0
  · obtain ⟨hl1, _, _, _⟩ := Co.ratio_fine h1
    obtain ⟨r, hr⟩ : ∃ r, (Co.ratio p l).1 = r := ⟨_, rfl⟩
    have er : Co.ratio p l = (r, 0) := by rw [← hr, ← h1]
    have C2 := Lib.hid fun k : Nat => crate_any A n c f g r (w.drewN k) hn hnc (hp.drewN k)
    by_cases h2 : (Co.rate n f g r).2 = 0
    · obtain ⟨b0, b1⟩ := Co.rate_fine h2
      obtain ⟨q, hq⟩ : ∃ q, (Co.rate n f g r).1 = q := ⟨_, rfl⟩
      have eq : Co.rate n f g r = (q, 0) := by rw [← hq, ← h2]
      rw [hq] at b0 b1
      have C3 := Lib.hid (share_any p q 4)
      rw [(Co.part_md hl1 ⟨b0, by omega⟩).1] at C3
      have e : Co.sliding n f g p l = (Co.part p q, 0) := by rw [Co.sliding, er, if_neg (by simp), eq, if_neg (by simp)]
      rw [e]
      rw [er] at C1
      rw [eq] at C2
      clear h1 hl1 hr er h2 b0 b1 hq eq e hp
      go_enter Try.func29, Try.ntmps29
      go_wp2_with fail
      refine C1.out.mono ?_
      rintro e w1 ⟨rfl, n1, rfl⟩
      go_wp2_with fail
      refine (C2.out n1).mono ?_
      rintro e w2 ⟨rfl, hb⟩
      have HB : Hid (Below w.heap.size w w2) := Lib.hid ((below_drewN (Below.refl w.heap.size w) n1).trans hb)
      clear hb
      go_wp2_with fail
      refine (C3.out _).mono ?_
      rintro e w3 ⟨rfl, n3, rfl⟩
      go_wp2_with fail
      go_ret2
      exact ⟨rfl, below_drewN HB.out n3⟩
    · have e : Co.sliding n f g p l = (0, (Co.rate n f g r).2) := by rw [Co.sliding, er, if_neg (by simp), if_pos h2]
      rw [e]
      rw [er] at C1
      obtain ⟨q, hq⟩ : ∃ q, (Co.rate n f g r).1 = q := ⟨_, rfl⟩
      obtain ⟨b, hb'⟩ : ∃ b, (Co.rate n f g r).2 = b := ⟨_, rfl⟩
      have eq : Co.rate n f g r = (q, b) := by rw [← hq, ← hb']
      rw [eq] at C2
      rw [hb'] at h2 ⊢
      have hne : (b != 0) = true := by rw [bne_iff_ne]; exact h2
      clear h1 hl1 hr er h2 hq hb' eq e hp
      go_enter Try.func29, Try.ntmps29
      go_wp2_with fail
      refine C1.out.mono ?_
      rintro e w1 ⟨rfl, n1, rfl⟩
      go_wp2_with fail
      refine (C2.out n1).mono ?_
      rintro e w2 ⟨rfl, hb⟩
      have HB : Hid (Below w.heap.size w w2) := Lib.hid ((below_drewN (Below.refl w.heap.size w) n1).trans hb)
      clear hb
      go_wp2_with fail
      go_ret2
      exact ⟨rfl, HB.out⟩
  · have e : Co.sliding n f g p l = (0, (Co.ratio p l).2) := by rw [Co.sliding, if_pos h1]
    rw [e]
    obtain ⟨q, hq⟩ : ∃ q, (Co.ratio p l).1 = q := ⟨_, rfl⟩
    obtain ⟨b, hb'⟩ : ∃ b, (Co.ratio p l).2 = b := ⟨_, rfl⟩
    have eq : Co.ratio p l = (q, b) := by rw [← hq, ← hb']
    rw [eq] at C1
    rw [hb'] at h1 ⊢
    have hne : (b != 0) = true := by rw [bne_iff_ne]; exact h1
    clear h1 hq hb' eq e hp
    go_enter Try.func29, Try.ntmps29
    go_wp2_with fail
    refine C1.out.mono ?_
    rintro e w1 ⟨rfl, n1, rfl⟩
    go_wp2_with fail
    go_ret2
    exact ⟨rfl, below_drewN (Below.refl _ _) _⟩

set_option maxHeartbeats 1000000 in
theorem rsliding_any (A : Option Addr) (n c : Nat) (f g : Nat → Int) (p l : Int) (w : World) (hn : n ≤ 9223372036854775807) (hp : Pairs w w.heap.size A n f g) :
    Calls Try.prog 30 #[.slice A n c, .int .i64 p, .int .i64 l] w (PairPost (Co.sliding n f g p l) w) := by
  have C1 := Lib.hid (rratio_any p l w)
  by_cases h1 : (Co.ratio p l).2 = 0
  · obtain ⟨hl1, _, _, _⟩ := Co.ratio_fine h1
    obtain ⟨r, hr⟩ : ∃ r, (Co.ratio p l).1 = r := ⟨_, rfl⟩
    have er : Co.ratio p l = (r, 0) := by rw [← hr, ← h1]
    have C2 := Lib.hid fun k : Nat => rrate_any A n c f g r (w.drewN k) hn (hp.drewN k)
    by_cases h2 : (Co.rate n f g r).2 = 0
    · obtain ⟨b0, b1⟩ := Co.rate_fine h2
      obtain ⟨q, hq⟩ : ∃ q, (Co.rate n f g r).1 = q := ⟨_, rfl⟩
      have eq : Co.rate n f g r = (q, 0) := by rw [← hq, ← h2]
      rw [hq] at b0 b1
      have C3 := Lib.hid (rshare_any p q 4)
      rw [(Co.part_md hl1 ⟨b0, by omega⟩).1] at C3
      have e : Co.sliding n f g p l = (Co.part p q, 0) := by rw [Co.sliding, er, if_neg (by simp), eq, if_neg (by simp)]
      rw [e]
      rw [er] at C1
      rw [eq] at C2
      clear h1 hl1 hr er h2 b0 b1 hq eq e hp
      go_enter Try.func30, Try.ntmps30
      go_wp2_with fail
      refine C1.out.mono ?_
      rintro e w1 ⟨rfl, n1, rfl⟩
      go_wp2_with fail
      refine (C2.out n1).mono ?_
      rintro e w2 ⟨rfl, hb⟩
      have HB : Hid (Below w.heap.size w w2) := Lib.hid ((below_drewN (Below.refl w.heap.size w) n1).trans hb)
      clear hb
      go_wp2_with fail
      refine (C3.out _).mono ?_
      rintro e w3 ⟨rfl, n3, rfl⟩
      go_wp2_with fail
      go_ret2
      exact ⟨rfl, below_drewN HB.out n3⟩
    · have e : Co.sliding n f g p l = (0, (Co.rate n f g r).2) := by rw [Co.sliding, er, if_neg (by simp), if_pos h2]
      rw [e]
      rw [er] at C1
      obtain ⟨q, hq⟩ : ∃ q, (Co.rate n f g r).1 = q := ⟨_, rfl⟩
      obtain ⟨b, hb'⟩ : ∃ b, (Co.rate n f g r).2 = b := ⟨_, rfl⟩
      have eq : Co.rate n f g r = (q, b) := by rw [← hq, ← hb']
      rw [eq] at C2
      rw [hb'] at h2 ⊢
      have hne : (b != 0) = true := by rw [bne_iff_ne]; exact h2
      clear h1 hl1 hr er h2 hq hb' eq e hp
      go_enter Try.func30, Try.ntmps30
      go_wp2_with fail
      refine C1.out.mono ?_
      rintro e w1 ⟨rfl, n1, rfl⟩
      go_wp2_with fail
      refine (C2.out n1).mono ?_
      rintro e w2 ⟨rfl, hb⟩
      have HB : Hid (Below w.heap.size w w2) := Lib.hid ((below_drewN (Below.refl w.heap.size w) n1).trans hb)
      clear hb
      go_wp2_with fail
      go_ret2
      exact ⟨rfl, HB.out⟩
  · have e : Co.sliding n f g p l = (0, (Co.ratio p l).2) := by rw [Co.sliding, if_pos h1]
    rw [e]
    obtain ⟨q, hq⟩ : ∃ q, (Co.ratio p l).1 = q := ⟨_, rfl⟩
    obtain ⟨b, hb'⟩ : ∃ b, (Co.ratio p l).2 = b := ⟨_, rfl⟩
    have eq : Co.ratio p l = (q, b) := by rw [← hq, ← hb']
    rw [eq] at C1
    rw [hb'] at h1 ⊢
    have hne : (b != 0) = true := by rw [bne_iff_ne]; exact h1
    clear h1 hq hb' eq e hp
    go_enter Try.func30, Try.ntmps30
    go_wp2_with fail
    refine C1.out.mono ?_
    rintro e w1 ⟨rfl, n1, rfl⟩
    go_wp2_with fail
    go_ret2
    exact ⟨rfl, below_drewN (Below.refl _ _) _⟩
end Go.Proofs.Ytedkdflecdggpaa
