/- aggregate.Apply and the reference's, of amounts whose sum is no overflow. -/
import Derived.Test.YtlmgfcgakdanaaaRnA
import Derived.Test.YtlmgfcgakdanaaaExA
import Derived.Test.YtlmgfcgakdanaaaOwnN
namespace Go.Proofs.Ytlmgfcgakdanaaa
open Go.RowKit
set_option linter.unusedVariables false

theorem Row.nums {w : World} {g n : Nat} {f : Nat → Int} (h : Row w g n 3 (fun i => .int .i64 (f i))) : Nums w w.heap.size (some ⟨g, 0, none⟩) n f := h.cells

/-- amounts whose sum is an amount -/
structure Rn.Sums (n : Nat) (l : Nat → Int) : Prop where
  n64 : n ≤ 64
  each : ∀ i, i < n → Ex.amt (l i)
  sum : Ex.psum l n ≤ 17592186044416
theorem Rn.Sums.at {n : Nat} {l : Nat → Int} (h : Rn.Sums n l) (k : Nat) (hk : k ≤ n) : 0 ≤ Ex.psum l k ∧ Ex.psum l k ≤ 17592186044416 := by
  have h1 := psum_mono (f := l) n hk fun j hj => (h.each j hj).1
  have h2 := psum_nonneg (f := l) k fun j hj => (h.each j (by omega)).1
  have := h.sum
  omega

/-- a list of numbers in new memory, and no error -/
def ListPost (n : Nat) (F : Nat → Int) (w : World) (e : Ending) (w' : World) : Prop := ∃ (g c : Nat), e = .returned (.tuple #[.slice (some ⟨g, 0, none⟩) n c, .int .i64 0]) ∧ w.heap.size ≤ g ∧ Nums w' w'.heap.size (some ⟨g, 0, none⟩) n F ∧ Below w.heap.size w w'

theorem agwithin_any (n : Int) (w : World) (h0 : 0 ≤ n) (h1 : n ≤ 17592186044416) : Calls Try.prog 79 #[.int .i64 n] w fun e w' => e = .returned (.bool true) ∧ w = w' := by
  go_enter Try.func79, Try.ntmps79
  go_wp2
  go_ret
  exact ⟨rfl, rfl⟩

/-- a running sum in block b -/
abbrev RunAt (w : World) (b : Nat) (s : Int) : Prop := Has w b #[.int .i64 s] 91
set_option maxHeartbeats 400000 in
theorem add_any (b : Nat) (s x : Int) (w : World) (h : RunAt w b s) (s0 : 0 ≤ s) (s1 : s ≤ 17592186044416) (x0 : 0 ≤ x) (x1 : x ≤ 17592186044416) :
    Calls Try.prog 64 #[.pointer (some ⟨b, 0, none⟩), .int .i64 x] w fun e w' => e = .returned (.int .i64 (s + x)) ∧ w.setCell ⟨b, 0, none⟩ (.int .i64 (s + x)) = w' := by
  have c0 : w.cell? ⟨b, 0, none⟩ = some (.int .i64 s) := h.cell 0
  have c1 := h.free 0
  have c2 := h.lt
  clear h
  go_enter Try.func64, Try.ntmps64
  go_wp2
  go_ret
  exact ⟨rfl, rfl⟩

set_option maxHeartbeats 1000000 in
theorem total_any (A : Option Addr) (n c : Nat) (l : Nat → Int) (d m : Int) (w : World) (hs : Rn.Sums n l) (hl : Nums w w.heap.size A n l) (d0 : 0 ≤ d) (d1 : d ≤ 17592186044416) (m0 : 0 ≤ m) (m1 : m ≤ 17592186044416) :
    Calls Try.prog 62 #[.slice A n c, .int .i64 d, .int .i64 m] w (PairPost (Ex.psum l n, 0) w) := by
  have HS := Lib.hid hs
  have HL := Lib.hid hl
  have n64 := hs.n64
  obtain ⟨X, hX⟩ : ∃ X, Ex.psum l n = X := ⟨_, rfl⟩
  have HX := Lib.hid hX
  rw [hX]
  clear hs hl hX
  go_enter Try.func62, Try.ntmps62
  go_wp2_with (first | (go_at_call 79; refine (agwithin_any _ _ (by omega) (by omega)).mono ?_; rintro e w' ⟨rfl, rfl⟩))
  have HR : Hid (RunAt (w.alloc (.cells #[.int .i64 0] 91)) w.heap.size 0) := Lib.hid (Has.new _ _ _)
  have HB : Hid (Below w.heap.size w (w.alloc (.cells #[.int .i64 0] 91))) := Lib.hid ((Below.refl _ _).alloc (Nat.le_refl _) _)
  obtain ⟨G, hG⟩ : ∃ G, w.heap.size = G := ⟨_, rfl⟩
  have HGW := Lib.hid hG
  obtain ⟨w1, hw1⟩ : ∃ W, w.alloc (.cells #[.int .i64 0] 91) = W := ⟨_, rfl⟩
  rw [hw1] at HR HB ⊢
  rw [hG] at HR ⊢
  clear hw1 hG
  go_loopw [10, 24] (fun _ i wr => ∃ k : Nat, k ≤ n ∧ i = .int .i64 k ∧ Hid (RunAt wr G (Ex.psum l k)) ∧ Hid (Below w.heap.size w wr)) (fun _ i _ => n - (intOf i).toNat)
  case atStart => exact ⟨0, Nat.zero_le _, rfl, HR, HB⟩
  case round =>
    clear HR HB
    obtain ⟨k, hk, rfl, HR, HB⟩ := hrel
    have hp := HS.out.at k hk
    have HP1 : Hid (Ex.psum l (k + 1) = Ex.psum l k + l k) := Lib.hid rfl
    obtain ⟨p, hpe⟩ : ∃ p, Ex.psum l k = p := ⟨_, rfl⟩
    rw [hpe] at hp HR HP1
    obtain ⟨p0, p1⟩ := hp
    by_cases hlt : k < n
    · obtain ⟨b, o, rfl, hbl, hc0⟩ := ((HL.out.below HB.out).mono HB.out.size).get hlt
      have hx := HS.out.each k hlt
      obtain ⟨x, hxe⟩ : ∃ x, l k = x := ⟨_, rfl⟩
      rw [hxe] at hx hc0 HP1
      obtain ⟨x0, x1⟩ := hx
      clear hpe hxe
      go_wp2_with (first | (go_at_call 79; refine (agwithin_any _ _ (by omega) (by omega)).mono ?_; rintro e w' ⟨rfl, rfl⟩))
      refine (add_any G p x _ HR.out p0 p1 x0 x1).mono ?_
      rintro e w2 ⟨rfl, rfl⟩
      go_wp2_with fail
      go_roundw
      case rel => exact ⟨k + 1, by omega, by go_num, Lib.hid (by rw [HP1.out]; exact HR.out.put 0 _), Lib.hid (HB.out.setCell (by rw [HGW.out]; exact Nat.le_refl _) _)⟩
      case measure => simp [intOf]; omega
    · have hkn : n = k := by omega
      have HXP : Hid (p = X) := Lib.hid (by rw [← hpe, ← hkn]; exact HX.out)
      have c0 : wr.cell? ⟨G, 0, none⟩ = some (.int .i64 p) := HR.out.cell 0
      have hd : decide ((k : Int) < n) = false := by rw [decide_eq_false_iff_not]; omega
      clear hkn hpe HP1
      go_wp2_with fail
      go_ret2
      exact ⟨ret_pair (by rw [HXP.out]), HB.out⟩

set_option maxHeartbeats 400000 in
theorem paid_any (s d m : Int) (w : World) : Calls Try.prog 63 #[.int .i64 s, .int .i64 d, .int .i64 m] w (IntPost (Rn.g d m s) w) := by
  by_cases hm : m = 0
  · subst hm
    have C1 : Hid (∀ W, Calls Try.prog 80 #[.int .i64 s, .int .i64 d, .int .i64 17592186044416] W (IntPost (Rn.g d 0 s) W)) := Lib.hid fun W => layer_any s d 17592186044416 W
    go_enter Try.func63, Try.ntmps63
    go_wp2_with fail
    refine (C1.out _).mono ?_
    rintro e w' ⟨rfl, hb⟩
    have HB := Lib.hid hb
    clear hb
    go_wp2_with fail
    go_ret
    exact ⟨rfl, HB.out⟩
  · have hm1 : (m == 0) = false := by rw [beq_eq_false_iff_ne]; exact hm
    have C1 : Hid (∀ W, Calls Try.prog 80 #[.int .i64 s, .int .i64 d, .int .i64 m] W (IntPost (Rn.g d m s) W)) := Lib.hid fun W => by
      have := layer_any s d m W
      unfold Rn.g
      rw [if_neg hm]
      exact this
    clear hm
    go_enter Try.func63, Try.ntmps63
    go_wp2_with fail
    refine (C1.out _).mono ?_
    rintro e w' ⟨rfl, hb⟩
    have HB := Lib.hid hb
    clear hb
    go_wp2_with fail
    go_ret
    exact ⟨rfl, HB.out⟩

set_option maxHeartbeats 2000000 in
theorem apply_any (A : Option Addr) (n c : Nat) (l : Nat → Int) (d m : Int) (w : World) (hs : Rn.Sums n l) (hl : Nums w w.heap.size A n l) (d0 : 0 ≤ d) (d1 : d ≤ 17592186044416) (m0 : 0 ≤ m) (m1 : m ≤ 17592186044416) :
    Calls Try.prog 41 #[.slice A n c, .int .i64 d, .int .i64 m] w (ListPost n (Rn.paid d m l) w) := by
  have HS := Lib.hid hs
  have HL := Lib.hid hl
  have n64 := hs.n64
  have HZ9 := Lib.hid (Rn.g_zero m d0)
  obtain ⟨i0, hi0, hz0, hz1, hz2⟩ := info_parts i64_info
  have C1 : Hid (∀ W, Nums W W.heap.size A n l → Calls Try.prog 62 #[.slice A n c, .int .i64 d, .int .i64 m] W (PairPost (Ex.psum l n, 0) W)) := Lib.hid fun W hW => total_any A n c l d m W hs hW d0 d1 m0 m1
  obtain ⟨X, hX⟩ : ∃ X, Ex.psum l n = X := ⟨_, rfl⟩
  rw [hX] at C1
  have HI := Lib.hid hi0
  have HZ0 := Lib.hid hz0
  have HZ1 := Lib.hid hz1
  have HZ2 := Lib.hid hz2
  clear hs hl hX hi0 hz0 hz1 hz2
  go_enter Try.func41, Try.ntmps41
  go_wp2_with fail
  refine (C1.out _ HL.out).mono ?_
  rintro e w1 ⟨rfl, hb⟩
  have HB := Lib.hid hb
  have hs1 := hb.size
  clear hb C1
  obtain ⟨W1, hmk, ho, hg⟩ := run_make_full (P := Try.prog) w1 w.heap.size 24 3 i0 (.int .i64 0) 1 Try.underlying24 HI.out HZ0.out HZ1.out .i64 .i64 n (by rw [HZ2.out]; omega) (by unfold maxLen; omega) hs1
  obtain ⟨h0, hrow⟩ := Row.some_made ho
  have HR0 : Hid (Row W1 w1.heap.size n 3 h0) := Lib.hid hrow
  have HB1 : Hid (Below w.heap.size w W1) := Lib.hid (HB.out.grown hg hs1 (fun _ h => by cases h))
  obtain ⟨R, hR⟩ : ∃ R, w1.heap.size = R := ⟨_, rfl⟩
  have hwR : w.heap.size ≤ R := by omega
  rw [hR] at HR0
  have HRS1 : Hid (R < W1.heap.size) := Lib.hid HR0.out.lt
  clear ho hrow hg
  try simp only
  go_wp2_with fail
  clear hmk hs1 HB
  have HRU : Hid (RunAt (W1.alloc (.cells #[.int .i64 0] 91)) W1.heap.size 0) := Lib.hid (Has.new _ _ _)
  replace HR0 := Lib.hid (HR0.out.alloc (.cells #[.int .i64 0] 91))
  replace HB1 := Lib.hid (HB1.out.alloc HB1.out.size (.cells #[.int .i64 0] 91))
  obtain ⟨S, hS⟩ : ∃ S, W1.heap.size = S := ⟨_, rfl⟩
  have hRS : R < S := by
    have h1 := HR0.out.lt
    have h2 := HRS1.out
    omega
  obtain ⟨W2, hW2⟩ : ∃ W, W1.alloc (.cells #[.int .i64 0] 91) = W := ⟨_, rfl⟩
  rw [hW2] at HRU HR0 HB1 ⊢
  rw [hS] at HRU ⊢
  clear hW2 hS
  go_loopw [12, 13, 14, 15, 31] (fun bf _ _ _ i wr => ∃ k : Nat, k ≤ n ∧ i = .int .i64 k ∧ bf = .int .i64 (Rn.at' d m l k) ∧ (∃ h : Nat → Value, Hid (Row wr R n 3 h) ∧ Hid (∀ q, q < k → h q = .int .i64 (Rn.paid d m l q))) ∧ Hid (RunAt wr S (Ex.psum l k)) ∧ Hid (Below w.heap.size w wr)) (fun _ _ _ _ i _ => n - (intOf i).toNat)
  case atStart => exact ⟨0, Nat.zero_le _, rfl, by rw [show Rn.at' d m l 0 = 0 from HZ9.out], ⟨h0, HR0, Lib.hid fun q hq => absurd hq (by omega)⟩, HRU, HB1⟩
  case round =>
    clear HR0 HRU HB1
    obtain ⟨k, hk, rfl, rfl, ⟨h, HR, HH⟩, HRU, HB⟩ := hrel
    have hp := HS.out.at k hk
    have HP1 : Hid (Ex.psum l (k + 1) = Ex.psum l k + l k) := Lib.hid rfl
    have HA1 : Hid (Rn.at' d m l (k + 1) = Rn.g d m (Ex.psum l k + l k) ∧ Rn.paid d m l k = Rn.g d m (Ex.psum l k + l k) - Rn.at' d m l k) := Lib.hid ⟨rfl, rfl⟩
    have hb0 : 0 ≤ Rn.at' d m l k ∧ Rn.at' d m l k ≤ 17592186044416 := Rn.g_bound d m _
    obtain ⟨p, hpe⟩ : ∃ p, Ex.psum l k = p := ⟨_, rfl⟩
    obtain ⟨a0, hae⟩ : ∃ p, Rn.at' d m l k = p := ⟨_, rfl⟩
    rw [hpe] at hp HRU HP1 HA1
    rw [hae] at hb0 HA1 ⊢
    obtain ⟨p0, p1⟩ := hp
    obtain ⟨b0, b1⟩ := hb0
    by_cases hlt : k < n
    · obtain ⟨b, o, rfl, hbl, hc0⟩ := ((HL.out.below HB.out).mono HB.out.size).get hlt
      have hx := HS.out.each k hlt
      obtain ⟨x, hxe⟩ : ∃ x, l k = x := ⟨_, rfl⟩
      rw [hxe] at hx hc0 HP1 HA1
      obtain ⟨x0, x1⟩ := hx
      have hg1 := Rn.g_bound d m (p + x)
      have CP := Lib.hid (paid_any (p + x) d m)
      obtain ⟨a1, ha1⟩ : ∃ a, Rn.g d m (p + x) = a := ⟨_, rfl⟩
      rw [ha1] at hg1 HA1 CP
      obtain ⟨g0, g1⟩ := hg1
      clear hpe hae hxe ha1
      go_wp2_with fail
      refine (add_any S p x _ HRU.out p0 p1 x0 x1).mono ?_
      rintro e w3 ⟨rfl, rfl⟩
      have HRU2 : Hid (RunAt (wr.setCell ⟨S, 0, none⟩ (.int .i64 (p + x))) S (p + x)) := Lib.hid (HRU.out.put 0 _)
      have HR2 : Hid (Row (wr.setCell ⟨S, 0, none⟩ (.int .i64 (p + x))) R n 3 h) := Lib.hid (HR.out.far (by simp only; omega) _)
      have HB2 : Hid (Below w.heap.size w (wr.setCell ⟨S, 0, none⟩ (.int .i64 (p + x)))) := Lib.hid (HB.out.setCell (by simp only; omega) _)
      obtain ⟨w4, hw4⟩ : ∃ W, wr.setCell ⟨S, 0, none⟩ (.int .i64 (p + x)) = W := ⟨_, rfl⟩
      rw [hw4] at HRU2 HR2 HB2 ⊢
      clear hw4 HRU HR HB
      go_wp2_with fail
      refine (CP.out _).mono ?_
      rintro e w5 ⟨rfl, hb⟩
      have HRU3 := Lib.hid (HRU2.out.below hb HRU2.out.lt)
      have HR3 := Lib.hid (HR2.out.below hb HR2.out.lt)
      have HB3 : Hid (Below w.heap.size w w5) := Lib.hid (HB2.out.trans (hb.mono HB2.out.size))
      have hq0 := HR3.out.cell k hlt
      have hq1 := HR3.out.free k
      clear hb HRU2 HR2 HB2 CP hc0
      go_wp2_with fail
      go_roundw
      case rel => exact ⟨k + 1, by omega, by go_num, by rw [HA1.out.1], ⟨_, Lib.hid (HR3.out.put k _), Lib.hid fun q hq => (by
        by_cases hqk : q = k
        · subst hqk; rw [if_pos rfl, HA1.out.2]
        · rw [if_neg hqk]; exact HH.out q (by omega))⟩, Lib.hid (by rw [HP1.out]; exact HRU3.out.far (by simp only; omega) _), Lib.hid (HB3.out.setCell (by simp only; omega) _)⟩
      case measure => simp [intOf]; omega
    · have hkn : n = k := by omega
      have hd : decide ((k : Int) < n) = false := by rw [decide_eq_false_iff_not]; omega
      have HF : Hid (∀ q, q < n → h q = .int .i64 (Rn.paid d m l q)) := Lib.hid (by rw [hkn]; exact HH.out)
      clear hkn hpe hae HP1 HA1 HH
      go_wp2_with fail
      go_ret2
      exact ⟨R, n, rfl, hwR, Row.nums (HR.out.congr fun j hj => HF.out j hj), HB.out⟩
end Go.Proofs.Ytlmgfcgakdanaaa
