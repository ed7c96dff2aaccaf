/- The deck's subsets: a list of numbers in ascending order. -/
import Derived.Test.YtlmgfcgakdanaaaTyMath
import Derived.Test.YtlmgfcgakdanaaaDeck
import Derived.Test.YtlmgfcgakdanaaaLeav
import Derived.Maps.AppendAt
namespace Go.Proofs.Ytlmgfcgakdanaaa
open Go.RowKit
set_option linter.unusedVariables false

/-- what subset returns -/
def SubPost (b : Nat) (w : World) (e : Ending) (w' : World) : Prop := ∃ (A : Option Addr) (n c : Nat) (f : Nat → Int), e = .returned (.slice A n c) ∧ n ≤ 3 ∧ Nums w' w'.heap.size A n f ∧ (∀ ad, A = some ad → ad.block ≠ b ∧ w.heap.size ≤ ad.block) ∧
  Ty.asc 0 15 n f = 0 ∧ Keeps b w w' ∧ IsDeck w' b

theorem numsL_snoc (n : Nat) (F : Nat → Int) (x : Int) : numsL n F ++ [.int .i64 x] = numsL (n + 1) (fun i => if i < n then F i else x) := by
  unfold numsL
  rw [List.range_succ, List.map_append]
  congr 1
  · apply List.map_congr_left
    intro i hi
    simp only [if_pos (List.mem_range.1 hi)]
  · simp

/-- a row that the call owns, nil or not, as a slice of numbers -/
theorem own_slice {w : World} {base n : Nat} {v : Value} {F : Nat → Int} (h : w.ownsRow base 3 1 v n (numsL n F)) :
    ∃ A c, v = .slice A n c ∧ Nums w w.heap.size A n F ∧ ∀ ad, A = some ad → base ≤ ad.block := by
  have hl : (numsL n F).length = n := numsL_length n F
  rcases h.2 with ⟨rfl, hx⟩ | ⟨g, cap, cur, rfl, hb, _⟩
  · subst hx
    exact ⟨none, 0, rfl, Nums.zero, (fun ad h => by cases h)⟩
  · refine ⟨some ⟨g, 0, none⟩, cap, rfl, ?_, fun ad h => by injection h with h; subst h; exact hb⟩
    have := Cells.of_own h (fun j => .int .i64 (F j)) fun j hj => by simp [numsL]
    rwa [Nat.mul_one] at this

/-- numbers below k in ascending order -/
def Asc (n : Nat) (F : Nat → Int) (k : Int) : Prop := ∀ i, i < n → 0 ≤ F i ∧ F i < k ∧ (0 < i → F (i - 1) < F i)
theorem Asc.asc {n : Nat} {F : Nat → Int} {k : Int} (h : Asc n F k) (hk : k ≤ 16) : Ty.asc 0 15 n F = 0 :=
  scan_fine _ _ _ fun j _ hj => by
    obtain ⟨h0, h1, h2⟩ := h j (by omega)
    exact Ty.ac_fine ⟨h0, by omega⟩ (fun c => by have := h2 c.1; omega)
theorem Asc.snoc {n : Nat} {F : Nat → Int} {k : Int} (h : Asc n F k) (h0 : 0 ≤ k) : Asc (n + 1) (fun i => if i < n then F i else k) (k + 1) := fun i hi => by
  by_cases e : i < n
  · have := h i e
    simp only [if_pos e]
    refine ⟨this.1, by omega, fun h1 => ?_⟩
    rw [if_pos (by omega)]
    exact this.2.2 h1
  · simp only [if_neg e]
    refine ⟨h0, by omega, fun h1 => ?_⟩
    rw [if_pos (by omega)]
    exact (h (i - 1) (by omega)).2.1
theorem Asc.up {n : Nat} {F : Nat → Int} {k : Int} (h : Asc n F k) : Asc n F (k + 1) := fun i hi => by have := h i hi; exact ⟨this.1, by omega, this.2.2⟩

set_option maxRecDepth 100000 in
set_option maxHeartbeats 2000000 in
theorem subset_any (b : Nat) (w : World) (hd : IsDeck w b) : Calls Try.prog 29 #[.pointer (some ⟨b, 0, none⟩), .int .i64 0, .int .i64 2] w (SubPost b w) := by
  have HD := Lib.hid hd
  have hb := hd.lt
  obtain ⟨i0, hi0, hz0, hz1, hz2⟩ := info_parts i64_info
  have HI := Lib.hid hi0
  have HZ0 := Lib.hid hz0
  have HZ1 := Lib.hid hz1
  have HZ2 := Lib.hid hz2
  clear hd hi0 hz0 hz1 hz2
  go_enter Try.func29, Try.ntmps29
  go_wp2_with fail
  refine (next_any b 2 _ HD.out (by omega) (by omega)).mono ?_
  rintro e w1 ⟨x, rfl, x0, x1, hk, hd⟩
  have HK := Lib.hid hk
  replace HD := Lib.hid hd
  clear hk hd
  by_cases hx : x = 0
  · have hx1 : (x == 0) = true := by rw [beq_iff_eq]; exact hx
    clear hx
    go_wp2_with fail
    go_ret
    exact ⟨none, 0, 0, fun _ => 0, rfl, by omega, Nums.zero, (fun ad h => by cases h), rfl, HK.out, HD.out⟩
  · have hx1 : (x == 0) = false := by rw [beq_eq_false_iff_ne]; exact hx
    clear hx
    go_wp2_with fail
    go_loopw [7, 8] (fun l kx wr => ∃ (k n : Nat) (F : Nat → Int), k ≤ 3 ∧ n ≤ k ∧ kx = .int .i64 k ∧ Hid (wr.ownsRow w.heap.size 3 1 l n (numsL n F)) ∧ Hid (Asc n F k) ∧ Hid (Keeps b w wr) ∧ Hid (IsDeck wr b)) (fun _ kx _ => 3 - (intOf kx).toNat)
    case atStart => exact ⟨0, 0, fun _ => 0, by omega, by omega, rfl, Lib.hid ⟨rfl, .inl ⟨rfl, rfl⟩⟩, Lib.hid fun i hi => absurd hi (by omega), HK, HD⟩
    case round =>
      clear HK HD
      obtain ⟨k, n, F, hk3, hnk, rfl, HO, HA, HK, HD⟩ := hrel
      by_cases hlt : k < 3
      · have hd1 : decide ((k : Int) ≤ 2) = true := by rw [decide_eq_true_iff]; omega
        go_wp2_with fail
        refine (next_any b 3 _ HD.out (by omega) (by omega)).mono ?_
        rintro e w2 ⟨y, rfl, y0, y1, hk2, hd2⟩
        replace HO := Lib.hid (own_keeps HO.out hk2 hb)
        replace HK := Lib.hid (HK.out.trans hk2)
        replace HD := Lib.hid hd2
        have hs2 := HK.out.size
        clear hk2 hd2
        by_cases hy : 0 < y
        · go_wp2_with ((at_builtin; refine wpList_append_lies _ rfl _ _ 24 rfl w.heap.size 3 i0 _ 1 8 Try.underlying24 HI.out HZ0.out HZ1.out HZ2.out rfl (by omega) _ n (numsL n F) rfl (HO.out.alloc _) ⟨w2.heap.size, 0, none⟩ 1 1 [.int .i64 (k : Int)] rfl rfl (World.news_of_block (cs := #[.int .i64 (k : Int)]) (t := 3) (fr := (0, 0)) (heap_alloc_new w2 _)) (by simp [Value.oneCell']) (by omega) (by unfold maxLen; omega) (by omega) (by simp; omega) (w2.heap.size + 1) (by simp) ?_; intro g cap w4 hown hgrow hat hlt4))
          rw [numsL_snoc] at hown
          have HO4 := Lib.hid hown
          have hkeep := (HK.out.alloc (.cells #[.int .i64 (k : Int)] 3)).grown hgrow (fun q hq => (own_lt HO.out hq).2)
          have HK4 : Hid (Keeps b w w4) := Lib.hid hkeep
          have HD4 : Hid (IsDeck w4 b) := Lib.hid ((HD.out.alloc (.cells #[.int .i64 (k : Int)] 3)).below ((Below.refl (b + 1) _).grown hgrow (by simp; omega) (fun q hq => by have := (own_lt HO.out hq).2; omega)) (by omega))
          have HA4 := Lib.hid (HA.out.snoc (by omega))
          clear hown hgrow hat hkeep HO HK HD HA
          go_wp2_with fail
          go_roundw
          case rel => exact ⟨k + 1, n + 1, _, by omega, by omega, by go_num, HO4, HA4, HK4, HD4⟩
          case measure => simp [intOf]; omega
        · have HA4 := Lib.hid (HA.out.up)
          go_wp2_with fail
          go_roundw
          case rel => exact ⟨k + 1, n, F, by omega, by omega, by go_num, HO, HA4, HK, HD⟩
          case measure => simp [intOf]; omega
      · have hd1 : decide ((k : Int) ≤ 2) = false := by rw [decide_eq_false_iff_not]; omega
        go_wp2_with fail
        go_ret
        obtain ⟨A, c, rfl, hn, hA⟩ := own_slice HO.out
        exact ⟨A, n, c, F, rfl, by omega, hn, fun ad h => ⟨by have := hA ad h; omega, hA ad h⟩, HA.out.asc (by omega), HK.out, HD.out⟩
end Go.Proofs.Ytlmgfcgakdanaaa
