/- The reference's Apply of chapter 23, of amounts; its sum may be an overflow. -/
import Derived.Test.YtlmgfcgakdanaaaAgg
import Derived.Test.YtlmgfcgakdanaaaRnB
import Derived.Test.YtlmgfcgakdanaaaDkS
namespace Go.Proofs.Ytlmgfcgakdanaaa
open Go.RowKit
set_option linter.unusedVariables false

theorem Cells.sub {w : World} {B n k : Nat} {A : Option Addr} {f : Nat → Value} (h : Cells w B A n f) (hk : k ≤ n) : Cells w B A k f := fun h0 => by
  obtain ⟨ad, e, hlt, hc⟩ := h (by omega)
  exact ⟨ad, e, hlt, fun j hj => hc j (by omega)⟩
theorem psum_amts {n : Nat} {l : Nat → Int} (n64 : n ≤ 64) (h : ∀ i, i < n → Ex.amt (l i)) (k : Nat) (hk : k ≤ n) : 0 ≤ Ex.psum l k ∧ Ex.psum l k ≤ 1125899906842624 := by
  have := Ex.psum_bound l 17592186044416 k fun j hj => h j (by omega)
  omega

set_option maxHeartbeats 1000000 in
theorem rtotal_any (A : Option Addr) (n c : Nat) (l : Nat → Int) (w : World) (n64 : n ≤ 64) (hs : ∀ i, i < n → Ex.amt (l i)) (hl : Nums w w.heap.size A n l) :
    Calls Try.prog 67 #[.slice A n c] w fun e w' => e = .returned (.tuple #[.int .i64 (Ex.psum l n), .int .i64 (if 17592186044416 < Ex.psum l n then 3 else 0)]) ∧ w = w' := by
  have HS := Lib.hid hs
  have HL := Lib.hid hl
  have HB9 := Lib.hid (psum_amts n64 hs)
  obtain ⟨X, hX⟩ : ∃ X, Ex.psum l n = X := ⟨_, rfl⟩
  have HX := Lib.hid hX
  rw [hX]
  obtain ⟨E, hE⟩ : ∃ E : Int, (if 17592186044416 < X then 3 else 0) = E := ⟨_, rfl⟩
  have HE : Hid ((17592186044416 < X → 3 = E) ∧ (¬ 17592186044416 < X → 0 = E)) := Lib.hid ⟨fun c => by rw [← hE, if_pos c], fun c => by rw [← hE, if_neg c]⟩
  rw [hE]
  clear hs hl hX hE
  go_enter Try.func67, Try.ntmps67
  go_wp2_with fail
  go_loop [4, 5] (fun s i => ∃ k : Nat, k ≤ n ∧ i = .int .i64 k ∧ s = .int .i64 (Ex.psum l k)) (fun _ i => n - (intOf i).toNat)
  case atStart => exact ⟨0, Nat.zero_le _, rfl, rfl⟩
  case round =>
    obtain ⟨k, hk, rfl, rfl⟩ := hrel
    have hp := HB9.out k hk
    have HP1 : Hid (Ex.psum l (k + 1) = Ex.psum l k + l k) := Lib.hid rfl
    obtain ⟨p, hpe⟩ : ∃ p, Ex.psum l k = p := ⟨_, rfl⟩
    rw [hpe] at hp HP1 ⊢
    obtain ⟨p0, p1⟩ := hp
    by_cases hlt : k < n
    · obtain ⟨b, o, rfl, hbl, hc0⟩ := HL.out.get hlt
      have hx := HS.out k hlt
      obtain ⟨x, hxe⟩ : ∃ x, l k = x := ⟨_, rfl⟩
      rw [hxe] at hx hc0 HP1
      have hd : decide (0 ≤ x ∧ x ≤ 17592186044416) = true := by rw [decide_eq_true_iff]; exact hx
      obtain ⟨x0, x1⟩ := hx
      clear hpe hxe
      go_wp2_with (first | (go_at_call 68; refine (ramount_any _ _).mono ?_; rintro e w' ⟨rfl, rfl⟩))
      go_round
      case rel => exact ⟨k + 1, by omega, by go_num, by rw [HP1.out]⟩
      case measure => simp [intOf]; omega
    · have hkn : n = k := by omega
      have HXP : Hid (p = X) := Lib.hid (by rw [← hpe, ← hkn]; exact HX.out)
      have hd : decide ((k : Int) < n) = false := by rw [decide_eq_false_iff_not]; omega
      clear hkn hpe HP1
      by_cases ho : 17592186044416 < p
      · have HE1 : Hid (3 = E) := Lib.hid (HE.out.1 (by rw [← HXP.out]; exact ho))
        clear HE
        go_wp2_with fail
        go_ret2
        exact ⟨ret_pair (by rw [HXP.out, HE1.out]), rfl⟩
      · have HE1 : Hid (0 = E) := Lib.hid (HE.out.2 (by have := HXP.out; omega))
        clear HE
        go_wp2_with fail
        go_ret2
        exact ⟨ret_pair (by rw [HXP.out, HE1.out]), rfl⟩

theorem rg_any (x d m : Int) (w : World) (d0 : 0 ≤ d) (d1 : d ≤ 17592186044416) (m0 : 0 ≤ m) (m1 : m ≤ 17592186044416) (x0 : 0 ≤ x) (x1 : x ≤ 17592186044416) :
    Calls Try.prog 69 #[.int .i64 x, .int .i64 d, .int .i64 m] w fun e w' => e = .returned (.int .i64 (Rn.g d m x)) ∧ w = w' := by
  have HG := Lib.hid (Rn.g_is d0 d1 m0 m1 x0 x1)
  by_cases hm : 0 < m
  · go_enter Try.func69, Try.ntmps69
    go_wp2
    go_ret
    exact ⟨ret_i64 (by rw [HG.out, if_pos hm]), rfl⟩
  · have hd : decide (0 < m) = false := by rw [decide_eq_false_iff_not]; exact hm
    go_enter Try.func69, Try.ntmps69
    go_wp2
    go_ret
    exact ⟨ret_i64 (by rw [HG.out, if_neg (by omega)]), rfl⟩

/-- a list of numbers, in new memory if it is not empty, and no error -/
def RowsPost (n : Nat) (F : Nat → Int) (w : World) (e : Ending) (w' : World) : Prop := ∃ (A : Option Addr) (c : Nat), e = .returned (.tuple #[.slice A n c, .int .i64 0]) ∧ (∀ ad, A = some ad → w.heap.size ≤ ad.block) ∧ Nums w' w'.heap.size A n F ∧ Below w.heap.size w w'

set_option maxRecDepth 100000 in
set_option maxHeartbeats 400000 in
theorem rapply_over (A : Option Addr) (n c : Nat) (l : Nat → Int) (d m : Int) (w : World) (n64 : n ≤ 64) (hs : ∀ i, i < n → Ex.amt (l i)) (ho : 17592186044416 < Ex.psum l n) (hl : Nums w w.heap.size A n l) (d0 : 0 ≤ d) (d1 : d ≤ 17592186044416) (m0 : 0 ≤ m) (m1 : m ≤ 17592186044416) :
    Calls Try.prog 45 #[.slice A n c, .int .i64 d, .int .i64 m] w fun e w' => e = .returned (.tuple #[.slice none 0 0, .int .i64 3]) ∧ w = w' := by
  have C1 : Hid (Calls Try.prog 67 #[.slice A n c] w fun e w' => e = .returned (.tuple #[.int .i64 (Ex.psum l n), .int .i64 3]) ∧ w = w') := Lib.hid (by
    have := rtotal_any A n c l w n64 hs hl
    rw [if_pos ho] at this
    exact this)
  have hd : decide (0 ≤ d ∧ d ≤ 17592186044416) = true := by rw [decide_eq_true_iff]; exact ⟨d0, d1⟩
  have hm : decide (0 ≤ m ∧ m ≤ 17592186044416) = true := by rw [decide_eq_true_iff]; exact ⟨m0, m1⟩
  clear hs ho hl
  go_enter Try.func45, Try.ntmps45
  go_wp2_with fail
  refine (C1.out).mono ?_
  rintro e w' ⟨rfl, rfl⟩
  go_wp2_with (first | (go_at_call 68; refine (ramount_any _ _).mono ?_; rintro e w' ⟨rfl, rfl⟩))
  go_ret2
  exact ⟨rfl, rfl⟩

set_option maxRecDepth 100000 in
set_option maxHeartbeats 2000000 in
theorem rapply_any (A : Option Addr) (n c : Nat) (l : Nat → Int) (d m : Int) (w : World) (hs : Rn.Sums n l) (hnc : n ≤ c) (hcm : c ≤ 9223372036854775807) (hl : Nums w w.heap.size A n l) (d0 : 0 ≤ d) (d1 : d ≤ 17592186044416) (m0 : 0 ≤ m) (m1 : m ≤ 17592186044416) :
    Calls Try.prog 45 #[.slice A n c, .int .i64 d, .int .i64 m] w (RowsPost n (Rn.paid d m l) w) := by
  have HS := Lib.hid hs
  have HL := Lib.hid hl
  have n64 := hs.n64
  obtain ⟨i0, hi0, hz0, hz1, hz2⟩ := info_parts i64_info
  have HI := Lib.hid hi0
  have HZ0 := Lib.hid hz0
  have HZ1 := Lib.hid hz1
  have HZ2 := Lib.hid hz2
  have C1 : Hid (∀ k, k ≤ n → ∀ W, Nums W W.heap.size A n l → Calls Try.prog 67 #[.slice A k c] W fun e w' => e = .returned (.tuple #[.int .i64 (Ex.psum l k), .int .i64 0]) ∧ W = w') := Lib.hid fun k hk W hW => by
    have := rtotal_any A k c l W (by omega) (fun i hi => hs.each i (by omega)) (Cells.sub hW hk)
    rw [if_neg (by have := hs.at k hk; omega)] at this
    exact this
  have hd : decide (0 ≤ d ∧ d ≤ 17592186044416) = true := by rw [decide_eq_true_iff]; exact ⟨d0, d1⟩
  have hm : decide (0 ≤ m ∧ m ≤ 17592186044416) = true := by rw [decide_eq_true_iff]; exact ⟨m0, m1⟩
  clear hs hl hi0 hz0 hz1 hz2
  go_enter Try.func45, Try.ntmps45
  go_wp2_with fail
  refine (C1.out n (Nat.le_refl _) _ HL.out).mono ?_
  rintro e w' ⟨rfl, rfl⟩
  go_wp2_with (first | (go_at_call 68; refine (ramount_any _ _).mono ?_; rintro e w' ⟨rfl, rfl⟩))
  clear hd hm
  go_loopw [10, 11, 12, 13] (fun v i _ _ wr => ∃ k : Nat, k ≤ n ∧ i = .int .i64 k ∧ Hid (wr.ownsRow w.heap.size 3 1 v k (numsL k (Rn.paid d m l))) ∧ Hid (Below w.heap.size w wr)) (fun _ i _ _ _ => n - (intOf i).toNat)
  case atStart => exact ⟨0, Nat.zero_le _, rfl, Lib.hid ⟨rfl, .inl ⟨rfl, rfl⟩⟩, Lib.hid (Below.refl _ _)⟩
  case round =>
    obtain ⟨k, hk, rfl, HO, HB⟩ := hrel
    by_cases hlt : k < n
    · obtain ⟨b, o, rfl, hbl, hc0⟩ := ((HL.out.below HB.out).mono HB.out.size).get hlt
      have hp := HS.out.at k hk
      have hp1 := HS.out.at (k + 1) hlt
      have HA1 : Hid (Rn.paid d m l k = Rn.g d m (Ex.psum l k + l k) - Rn.g d m (Ex.psum l k)) := Lib.hid rfl
      have hb0 := Rn.g_bound d m (Ex.psum l k)
      have hb1 := Rn.g_bound d m (Ex.psum l k + l k)
      have hx := HS.out.each k hlt
      rw [show Ex.psum l (k + 1) = Ex.psum l k + l k from rfl] at hp1
      have C1' := Lib.hid (C1.out k hk)
      have CG1 := Lib.hid (fun W => rg_any (Ex.psum l k + l k) d m W d0 d1 m0 m1 hp1.1 hp1.2)
      have CG0 := Lib.hid (fun W => rg_any (Ex.psum l k) d m W d0 d1 m0 m1 hp.1 hp.2)
      obtain ⟨p, hpe⟩ : ∃ p, Ex.psum l k = p := ⟨_, rfl⟩
      obtain ⟨x, hxe⟩ : ∃ x, l k = x := ⟨_, rfl⟩
      rw [hpe] at hp hp1 HA1 hb0 hb1 C1' CG1 CG0
      rw [hxe] at hp1 HA1 hb1 CG1 hc0 hx
      obtain ⟨a0, ha0⟩ : ∃ a, Rn.g d m p = a := ⟨_, rfl⟩
      obtain ⟨a1, ha1⟩ : ∃ a, Rn.g d m (p + x) = a := ⟨_, rfl⟩
      rw [ha0] at HA1 hb0 CG0
      rw [ha1] at HA1 hb1 CG1
      obtain ⟨p0, p1⟩ := hp
      obtain ⟨q0, q1⟩ := hp1
      obtain ⟨b0, b1⟩ := hb0
      obtain ⟨e0, e1⟩ := hb1
      obtain ⟨x0, x1⟩ := hx
      have hk0 : (0 : Int) ≤ k := by omega
      have hk1 : (k : Int) < n := by omega
      have hk2 : (k : Int) ≤ c := by omega
      have hgs := HB.out.size
      clear hpe hxe ha0 ha1
      go_wp2_with fail
      refine (C1'.out _ ((HL.out.below HB.out).mono HB.out.size)).mono ?_
      rintro e w' ⟨rfl, rfl⟩
      clear C1'
      go_wp2_with fail
      refine (CG1.out _).mono ?_
      rintro e w' ⟨rfl, rfl⟩
      go_wp2_with fail
      refine (CG0.out _).mono ?_
      rintro e w' ⟨rfl, rfl⟩
      go_wp2_with ((at_builtin; refine wpList_append_lies _ rfl _ _ 24 rfl w.heap.size 3 i0 _ 1 8 Try.underlying24 HI.out HZ0.out HZ1.out HZ2.out rfl (by omega) _ k (numsL k (Rn.paid d m l)) rfl (HO.out.alloc _) ⟨wr.heap.size, 0, none⟩ 1 1 [.int .i64 (a1 - a0)] rfl rfl (World.news_of_block (cs := #[.int .i64 (a1 - a0)]) (t := 3) (fr := (0, 0)) (heap_alloc_new wr _)) (by simp [Value.oneCell']) (by omega) (by unfold maxLen; omega) (by omega) (by simp; omega) (wr.heap.size + 1) (by simp) ?_; intro gg cap w4 hown hgrow hat hlt4))
      rw [numsL_snoc] at hown
      have HO4 : Hid (w4.ownsRow w.heap.size 3 1 (.slice (some ⟨gg, 0, none⟩) (k + 1) cap) (k + 1) (numsL (k + 1) (Rn.paid d m l))) := Lib.hid (by
        rw [numsL_congr (G := fun i => if i < k then Rn.paid d m l i else a1 - a0) fun i hi => ?_]
        · exact hown
        · by_cases c1 : i < k
          · rw [if_pos c1]
          · rw [if_neg c1, show i = k by omega, HA1.out])
      have HB4 : Hid (Below w.heap.size w w4) := Lib.hid ((HB.out.alloc HB.out.size _).grown hgrow (by simp; omega) (fun q hq => (own_lt HO.out hq).2))
      clear hown hgrow hat HO HB
      go_wp2_with fail
      go_roundw
      case rel => exact ⟨k + 1, by omega, by go_num, HO4, HB4⟩
      case measure => simp [intOf]; omega
    · have hkn : n = k := by omega
      have hd : decide ((k : Int) < n) = false := by rw [decide_eq_false_iff_not]; omega
      subst hkn
      go_wp2_with fail
      go_ret2
      obtain ⟨A', c', rfl, hn, hA'⟩ := own_slice HO.out
      exact ⟨A', c', rfl, hA', hn, HB.out⟩
end Go.Proofs.Ytlmgfcgakdanaaa
