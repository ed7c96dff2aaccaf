/- excess.At and the reference's IndexAt: the value of an index at an hour. -/
import Derived.Test.YtigoeaidlgofoaaExV
namespace Go.Proofs.Ytigoeaidlgofoaa
open Go.RowKit

/-- an amount and an error are returned; memory is made and nothing else changes -/
def PairPost (a : Int × Int) (w : World) (e : Ending) (w' : World) : Prop := e = .returned (.tuple #[.int .i64 a.1, .int .i64 a.2]) ∧ Below w.heap.size w w'

theorem ret_pair {a b c d : Int} (h : (a, b) = (c, d)) : Ending.returned (.tuple #[.int .i64 a, .int .i64 b]) = .returned (.tuple #[.int .i64 c, .int .i64 d]) := by
  injection h with h1 h2
  rw [h1, h2]

set_option maxHeartbeats 1000000 in
theorem exat_any (A : Option Addr) (n c : Nat) (f g : Nat → Int) (h : Int) (w : World) (hn : n ≤ 9223372036854775807) (hp : Pairs w w.heap.size A n f g) :
    Calls Try.prog 23 #[.slice A n c, .int .i64 h] w (PairPost (Ex.at' n f g h) w) := by
  have CV : Hid (Calls Try.prog 27 #[.slice A n c] w (IntPost (Ex.ierr n f g) w)) := Lib.hid (exvalidate_any A n c f g w hn hp)
  obtain ⟨r, hr⟩ : ∃ r, Ex.ierr n f g = r := ⟨_, rfl⟩
  rw [hr] at CV
  by_cases h0 : r = 0
  · subst h0
    have hnn := (Ex.ierr_fine hr).1
    have H := Lib.hid hp
    by_cases hh : 0 ≤ h ∧ h ≤ 876599
    · have HA : Hid (Ex.at' n f g h = Ex.st f g h n) := Lib.hid (by rw [Ex.at', if_neg (by rw [hr]; simp), if_neg (fun c => c hh)])
      obtain ⟨hh0, hh1⟩ := hh
      obtain ⟨R, hR⟩ : ∃ R, Ex.at' n f g h = R := ⟨_, rfl⟩
      rw [hR] at HA ⊢
      clear hp hr hR
      go_enter Try.func23, Try.ntmps23
      go_wp2_with fail
      refine CV.out.mono ?_
      rintro e w1 ⟨rfl, hb⟩
      have HB := Lib.hid hb
      clear hb
      go_wp2_with (first | (go_at_call 40; refine (exwithin_any _ _ _ _).mono ?_; rintro e w' ⟨rfl, rfl⟩))
      go_loopw [7, 8, 10, 21] (fun a e _ i wr => ∃ k : Nat, k ≤ n ∧ i = .int .i64 k ∧ a = .int .i64 (Ex.st f g h k).1 ∧ e = .int .i64 (Ex.st f g h k).2 ∧ Hid (Below w.heap.size w wr)) (fun _ _ _ i _ => n - (intOf i).toNat)
      case atStart => exact ⟨0, Nat.zero_le _, rfl, rfl, rfl, HB⟩
      case round =>
        obtain ⟨k, hk, rfl, rfl, rfl, HB'⟩ := hrel
        have hs := HB'.out.size
        by_cases hlt : k < n
        · obtain ⟨b, o, rfl, had, hc0, hc1⟩ := ((H.out.below HB'.out).mono hs).get hlt
          obtain ⟨x, hx⟩ : ∃ x, f k = x := ⟨_, rfl⟩
          obtain ⟨y, hy⟩ : ∃ y, g k = y := ⟨_, rfl⟩
          rw [hx] at hc0
          rw [hy] at hc1
          by_cases hle : x ≤ h
          · have HE : Hid (Ex.st f g h (k + 1) = (y, 0)) := Lib.hid (by rw [Ex.st, hx, if_pos hle, hy])
            clear hx hy
            go_wp2_with fail
            go_roundw
            case rel => exact ⟨k + 1, by omega, by go_num, by rw [HE.out], by rw [HE.out], Lib.hid (HB'.out.alloc hs _)⟩
            case measure => simp [intOf]; omega
          · have HE : Hid (Ex.st f g h (k + 1) = Ex.st f g h k) := Lib.hid (by rw [Ex.st, hx, if_neg hle])
            clear hx hy
            go_wp2_with fail
            go_roundw
            case rel => exact ⟨k + 1, by omega, by go_num, by rw [HE.out], by rw [HE.out], Lib.hid (HB'.out.alloc hs _)⟩
            case measure => simp [intOf]; omega
        · have hkn : k = n := by omega
          subst hkn
          go_wp2_with fail
          go_ret2
          exact ⟨by rw [HA.out]; rfl, HB'.out⟩
    · have HA : Hid (Ex.at' n f g h = (0, 1)) := Lib.hid (by rw [Ex.at', if_neg (by rw [hr]; simp), if_pos (show ¬ Ex.hourP h from hh)])
      have hd : decide (0 ≤ h ∧ h ≤ 876599) = false := by rw [decide_eq_false_iff_not]; exact hh
      rw [HA.out]
      clear HA hh hp hr
      go_enter Try.func23, Try.ntmps23
      go_wp2_with fail
      refine CV.out.mono ?_
      rintro e w1 ⟨rfl, hb⟩
      have HB := Lib.hid hb
      clear hb
      go_wp2_with (first | (go_at_call 40; refine (exwithin_any _ _ _ _).mono ?_; rintro e w' ⟨rfl, rfl⟩))
      go_ret2
      exact ⟨rfl, HB.out⟩
  · have HA : Hid (Ex.at' n f g h = (0, r)) := Lib.hid (by rw [Ex.at', if_pos (by rw [hr]; exact h0), hr])
    have hr0 : (r != 0) = true := by rw [bne_iff_ne]; exact h0
    rw [HA.out]
    clear HA hp hr h0
    go_enter Try.func23, Try.ntmps23
    go_wp2_with fail
    refine CV.out.mono ?_
    rintro e w1 ⟨rfl, hb⟩
    have HB := Lib.hid hb
    clear hb
    go_wp2_with fail
    go_ret2
    exact ⟨rfl, HB.out⟩

set_option maxHeartbeats 1000000 in
theorem rindexat_any (A : Option Addr) (n c : Nat) (f g : Nat → Int) (h : Int) (w : World) (hn : n ≤ 9223372036854775807) (hp : Pairs w w.heap.size A n f g) :
    Calls Try.prog 24 #[.slice A n c, .int .i64 h] w (PairPost (Ex.at' n f g h) w) := by
  have CV : Hid (Calls Try.prog 28 #[.slice A n c] w (IntPost (Ex.ierr n f g) w)) := Lib.hid (rindices_any A n c f g w hn hp)
  obtain ⟨r, hr⟩ : ∃ r, Ex.ierr n f g = r := ⟨_, rfl⟩
  rw [hr] at CV
  by_cases h0 : r = 0
  · subst h0
    have hnn := (Ex.ierr_fine hr).1
    have H := Lib.hid hp
    by_cases hh : 0 ≤ h ∧ h ≤ 876599
    · have HA : Hid (Ex.at' n f g h = Ex.st f g h n) := Lib.hid (by rw [Ex.at', if_neg (by rw [hr]; simp), if_neg (fun c => c hh)])
      have HST := Lib.hid (Ex.st_cases f g h n fun j hj => ((Ex.ierr_fine hr).2 j hj).2)
      obtain ⟨hh0, hh1⟩ := hh
      obtain ⟨R, hR⟩ : ∃ R, Ex.at' n f g h = R := ⟨_, rfl⟩
      rw [hR] at HA ⊢
      clear hp hr hR
      go_enter Try.func24, Try.ntmps24
      go_wp2_with fail
      refine CV.out.mono ?_
      rintro e w1 ⟨rfl, hb⟩
      have HB := Lib.hid hb
      clear hb
      go_wp2_with (first | (go_at_call 42; refine (inhours_any _ _).mono ?_; rintro e w' ⟨rfl, rfl⟩))
      go_loopw [7, 8] (fun a i wr => ∃ k : Nat, k ≤ n ∧ i = .int .i64 k ∧ a = .int .i64 (Ex.st f g h k).1 ∧ Hid (Below w.heap.size w wr)) (fun _ i _ => n - (intOf i).toNat)
      case atStart => exact ⟨0, Nat.zero_le _, rfl, rfl, HB⟩
      case round =>
        obtain ⟨k, hk, rfl, rfl, HB'⟩ := hrel
        have hs := HB'.out.size
        by_cases hlt : k < n
        · obtain ⟨b, o, rfl, had, hc0, hc1⟩ := ((H.out.below HB'.out).mono hs).get hlt
          obtain ⟨x, hx⟩ : ∃ x, f k = x := ⟨_, rfl⟩
          obtain ⟨y, hy⟩ : ∃ y, g k = y := ⟨_, rfl⟩
          rw [hx] at hc0
          rw [hy] at hc1
          by_cases hle : x ≤ h
          · have HE : Hid (Ex.st f g h (k + 1) = (y, 0)) := Lib.hid (by rw [Ex.st, hx, if_pos hle, hy])
            clear hx hy
            go_wp2_with fail
            go_roundw
            case rel => exact ⟨k + 1, by omega, by go_num, by rw [HE.out], HB'⟩
            case measure => simp [intOf]; omega
          · have HE : Hid (Ex.st f g h (k + 1) = Ex.st f g h k) := Lib.hid (by rw [Ex.st, hx, if_neg hle])
            clear hx hy
            go_wp2_with fail
            go_roundw
            case rel => exact ⟨k + 1, by omega, by go_num, by rw [HE.out], HB'⟩
            case measure => simp [intOf]; omega
        · have hkn : k = n := by omega
          subst hkn
          rcases HST.out with e | ⟨e1, e2⟩
          · have hz : ((Ex.st f g h k).1 == 0) = true := by rw [e]; rfl
            have HE : Hid (Ex.st f g h k = (0, 19)) := Lib.hid e
            clear e
            go_wp2_with fail
            go_ret2
            exact ⟨by rw [HA.out, HE.out]; rfl, HB'.out⟩
          · have hz : ((Ex.st f g h k).1 == 0) = false := by rw [beq_eq_false_iff_ne]; have := e1.1; omega
            have HE := Lib.hid e2
            clear e1 e2
            go_wp2_with fail
            go_ret2
            exact ⟨by rw [HA.out, HE.out]; rfl, HB'.out⟩
    · have HA : Hid (Ex.at' n f g h = (0, 1)) := Lib.hid (by rw [Ex.at', if_neg (by rw [hr]; simp), if_pos (show ¬ Ex.hourP h from hh)])
      have hd : decide (0 ≤ h ∧ h ≤ 876599) = false := by rw [decide_eq_false_iff_not]; exact hh
      rw [HA.out]
      clear HA hh hp hr
      go_enter Try.func24, Try.ntmps24
      go_wp2_with fail
      refine CV.out.mono ?_
      rintro e w1 ⟨rfl, hb⟩
      have HB := Lib.hid hb
      clear hb
      go_wp2_with (first | (go_at_call 42; refine (inhours_any _ _).mono ?_; rintro e w' ⟨rfl, rfl⟩))
      go_ret2
      exact ⟨rfl, HB.out⟩
  · have HA : Hid (Ex.at' n f g h = (0, r)) := Lib.hid (by rw [Ex.at', if_pos (by rw [hr]; exact h0), hr])
    have hr0 : (r != 0) = true := by rw [bne_iff_ne]; exact h0
    rw [HA.out]
    clear HA hp hr h0
    go_enter Try.func24, Try.ntmps24
    go_wp2_with fail
    refine CV.out.mono ?_
    rintro e w1 ⟨rfl, hb⟩
    have HB := Lib.hid hb
    clear hb
    go_wp2_with fail
    go_ret2
    exact ⟨rfl, HB.out⟩
end Go.Proofs.Ytigoeaidlgofoaa
