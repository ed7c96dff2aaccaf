/- The deck's participations. -/
import Derived.Test.YtlmgfcgakdanaaaDkS
import Derived.Test.YtlmgfcgakdanaaaRnMath
import Derived.Test.YtlmgfcgakdanaaaPush
namespace Go.Proofs.Ytlmgfcgakdanaaa
open Go.RowKit
set_option linter.unusedVariables false

/-- what Parts returns -/
def DPartsPost (b : Nat) (w : World) (e : Ending) (w' : World) : Prop := ∃ (A : Option Addr) (n c : Nat) (f g : Nat → Int), e = .returned (.slice A n c) ∧ n ≤ 4 ∧ Pairs w' w'.heap.size A n f g ∧ (∀ ad, A = some ad → ad.block ≠ b ∧ w.heap.size ≤ ad.block) ∧
  Ty.perr n f g = 0 ∧ Keeps b w w' ∧ IsDeck w' b

theorem fstOf_snoc (ps : List (Int × Int)) (a : Int × Int) (i : Nat) : fstOf (ps ++ [a]) i = if i < ps.length then fstOf ps i else if i = ps.length then a.1 else 0 := by
  unfold fstOf
  by_cases h : i < ps.length
  · rw [if_pos h]; simp [List.getD, List.getElem?_append, h]
  · rw [if_neg h]
    by_cases e : i = ps.length
    · subst e; simp [List.getD]
    · rw [if_neg e]; simp [List.getD, List.getElem?_eq_none (show (ps ++ [a]).length ≤ i by simp; omega)]
theorem sndOf_snoc (ps : List (Int × Int)) (a : Int × Int) (i : Nat) : sndOf (ps ++ [a]) i = if i < ps.length then sndOf ps i else if i = ps.length then a.2 else 0 := by
  unfold sndOf
  by_cases h : i < ps.length
  · rw [if_pos h]; simp [List.getD, List.getElem?_append, h]
  · rw [if_neg h]
    by_cases e : i = ps.length
    · subst e; simp [List.getD]
    · rw [if_neg e]; simp [List.getD, List.getElem?_eq_none (show (ps ++ [a]).length ≤ i by simp; omega)]

/-- participations up to a party, and what is left -/
structure PInv (ps : List (Int × Int)) (party left : Int) : Prop where
  each : ∀ i, i < ps.length → 1 ≤ fstOf ps i ∧ fstOf ps i ≤ party ∧ 1 ≤ sndOf ps i ∧ sndOf ps i ≤ 1000000 ∧ (0 < i → fstOf ps (i - 1) < fstOf ps i)
  sum : Ex.psum (sndOf ps) ps.length + left = 1000000
  left0 : 0 ≤ left
  left1 : left ≤ 1000000
theorem PInv.snoc {ps : List (Int × Int)} {party left p x : Int} (h : PInv ps party left) (hp0 : 0 ≤ party) (hp : party < p) (hx0 : 1 ≤ x) (hx1 : x ≤ left) : PInv (ps ++ [(p, x)]) p (left - x) := by
  have hl := h.left1
  refine ⟨fun i hi => ?_, ?_, by omega, by omega⟩
  · rw [List.length_append] at hi
    simp only [List.length_singleton] at hi
    rw [fstOf_snoc, sndOf_snoc, fstOf_snoc]
    by_cases e : i < ps.length
    · have := h.each i e
      simp only [if_pos e]
      refine ⟨this.1, by omega, this.2.2.1, this.2.2.2.1, fun h1 => ?_⟩
      rw [if_pos (by omega)]
      exact this.2.2.2.2 h1
    · have e2 : i = ps.length := by omega
      simp only [if_neg e, if_pos e2]
      refine ⟨by omega, by omega, hx0, by omega, fun h1 => ?_⟩
      rw [if_pos (by omega)]
      have := h.each (i - 1) (by omega)
      omega
  · rw [List.length_append]
    simp only [List.length_singleton]
    rw [Ex.psum, sndOf_snoc, if_neg (by omega), if_pos rfl, psum_congr (g := sndOf ps) ps.length fun j hj => by rw [sndOf_snoc, if_pos hj]]
    have := h.sum
    simp only
    omega
theorem PInv.perr {ps : List (Int × Int)} {party left : Int} (h : PInv ps party left) (hp : party ≤ 15) (hn : ps.length ≤ 12) : Ty.perr ps.length (fstOf ps) (sndOf ps) = 0 := by
  have h0 : scan (Ty.pc (fstOf ps) (sndOf ps)) ps.length 0 = 0 := scan_fine _ _ _ fun j _ hj => by
    have := h.each j (by omega)
    exact Ty.pc_fine ⟨⟨this.1, by omega⟩, this.2.2.1, this.2.2.2.1⟩ (fun c => by have := this.2.2.2.2 c.1; omega)
  have h1 : Ty.perr0 ps.length (fstOf ps) (sndOf ps) = 0 := by unfold Ty.perr0; rw [if_neg (by omega)]; exact h0
  unfold Ty.perr
  rw [h1, if_neg (fun c => c rfl), if_neg (by have := h.sum; have := h.left0; omega)]

set_option maxRecDepth 100000 in
theorem part_info : (Try.prog.info? 75).map (fun i => (i.zero, i.size, i.bytes)) = some (some (.agg #[.int .i64 0, .int .i64 0]), 2, 16) := by kernel_rfl

theorem own_pairs {w : World} {base : Nat} {e : TypeId} {v : Value} {ps : List (Int × Int)} (h : w.ownsRow base e 2 v ps.length (cellsOf ps)) :
    ∃ A c, v = .slice A ps.length c ∧ Pairs w w.heap.size A ps.length (fstOf ps) (sndOf ps) ∧ ∀ ad, A = some ad → base ≤ ad.block := by
  rcases h.2 with ⟨rfl, hx⟩ | ⟨g, cap, cur, rfl, hb, _⟩
  · rw [hx]
    exact ⟨none, 0, rfl, Pairs.zero, fun ad h => by cases h⟩
  · exact ⟨some ⟨g, 0, none⟩, cap, rfl, Pairs.of_own h, fun ad h => by injection h with h; subst h; exact hb⟩

set_option maxRecDepth 100000 in
set_option maxHeartbeats 2000000 in
theorem dparts_any (b : Nat) (w : World) (hd : IsDeck w b) : Calls Try.prog 31 #[.pointer (some ⟨b, 0, none⟩)] w (DPartsPost b w) := by
  have HD := Lib.hid hd
  have hb := hd.lt
  obtain ⟨i0, hi0, hz0, hz1, hz2⟩ := info_parts part_info
  have HI := Lib.hid hi0
  have HZ0 := Lib.hid hz0
  have HZ1 := Lib.hid hz1
  have HZ2 := Lib.hid hz2
  clear hd hi0 hz0 hz1 hz2
  go_enter Try.func31, Try.ntmps31
  go_wp2_with fail
  refine (next_any b 5 _ HD.out (by omega) (by omega)).mono ?_
  rintro e w1 ⟨kk, rfl, x0, x1, hk, hd⟩
  have HK := Lib.hid hk
  replace HD := Lib.hid hd
  clear hk hd
  obtain ⟨k0, rfl⟩ : ∃ n : Nat, kk = n := ⟨kk.toNat, by omega⟩
  go_wp2_with fail
  go_loopw [3, 4, 5, 6, 7] (fun l lf pa kx _ wr => ∃ (k : Nat) (ps : List (Int × Int)) (left party : Int), k + ps.length ≤ 4 ∧ kx = .int .i64 k ∧ lf = .int .i64 left ∧ pa = .int .i64 party ∧ 0 ≤ left ∧ left ≤ 1000000 ∧ 0 ≤ party ∧ party ≤ 3 * ps.length ∧
    Hid (wr.ownsRow w.heap.size 75 2 l ps.length (cellsOf ps)) ∧ Hid (PInv ps party left) ∧ Hid (Keeps b w wr) ∧ Hid (IsDeck wr b)) (fun _ _ _ kx _ _ => (intOf kx).toNat)
  case atStart => exact ⟨k0, [], 1000000, 0, by simp; omega, rfl, rfl, rfl, by omega, by omega, by omega, by simp, Lib.hid ⟨rfl, .inl ⟨rfl, rfl⟩⟩, Lib.hid ⟨fun i hi => absurd hi (by simp), rfl, by omega, by omega⟩, HK, HD⟩
  case round =>
    clear HK HD
    obtain ⟨k, ps, left, party, hkp, rfl, rfl, rfl, l0, l1, p0, p1, HO, HA, HK, HD⟩ := hrel
    by_cases hlt : 0 < k ∧ 0 < left
    · obtain ⟨hk0, hl0⟩ := hlt
      have hd1 : decide ((0 : Int) < k) = true := by rw [decide_eq_true_iff]; omega
      have hd2 : decide (0 < left) = true := by rw [decide_eq_true_iff]; exact hl0
      obtain ⟨n, hn⟩ : ∃ n, ps.length = n := ⟨_, rfl⟩
      have HN := Lib.hid hn
      rw [hn] at hkp p1 HO
      clear hn
      go_wp2_with fail
      refine (next_any b 3 _ HD.out (by omega) (by omega)).mono ?_
      rintro e w2 ⟨y, rfl, y0, y1, hk2, hd2'⟩
      replace HO := Lib.hid (own_keeps HO.out hk2 hb)
      replace HK := Lib.hid (HK.out.trans hk2)
      replace HD := Lib.hid hd2'
      clear hk2 hd2'
      go_wp2_with fail
      refine (upto_any b _ _ HD.out (by omega) (by omega)).mono ?_
      rintro e w3 ⟨x, rfl, x0, x1, hk2, hd2'⟩
      replace HO := Lib.hid (own_keeps HO.out hk2 hb)
      replace HK := Lib.hid (HK.out.trans hk2)
      replace HD := Lib.hid hd2'
      have hs2 := HK.out.size
      clear hk2 hd2'
      go_wp2_with ((at_builtin; refine wpList_append_lies _ rfl _ _ 25 rfl w.heap.size 75 i0 _ 2 16 Try.underlying25 HI.out HZ0.out HZ1.out HZ2.out rfl (by omega) _ n (cellsOf ps) rfl (HO.out.alloc _) ⟨w3.heap.size, 0, none⟩ 1 1 [.int .i64 (party + 1 + y), .int .i64 (1 + x)] rfl rfl (World.news_of_block (cs := #[.int .i64 (party + 1 + y), .int .i64 (1 + x)]) (t := 75) (fr := (0, 0)) (heap_alloc_new w3 _)) (by simp [Value.oneCell']) (by omega) (by unfold maxLen; omega) (by omega) (by simp; omega) (w3.heap.size + 1) (by simp) ?_; intro g cap w4 hown hgrow hat hlt4))
      have HO4 : Hid (w4.ownsRow w.heap.size 75 2 (.slice (some ⟨g, 0, none⟩) (n + 1) cap) (n + 1) (cellsOf (ps ++ [(party + 1 + y, 1 + x)]))) := Lib.hid (by rw [cellsOf_snoc]; exact hown)
      have HK4 : Hid (Keeps b w w4) := Lib.hid ((HK.out.alloc (.cells #[.int .i64 (party + 1 + y), .int .i64 (1 + x)] 75)).grown hgrow (fun q hq => (own_lt HO.out hq).2))
      have HD4 : Hid (IsDeck w4 b) := Lib.hid ((HD.out.alloc (.cells #[.int .i64 (party + 1 + y), .int .i64 (1 + x)] 75)).below ((Below.refl (b + 1) _).grown hgrow (by simp; omega) (fun q hq => by have := (own_lt HO.out hq).2; omega)) (by omega))
      have HA4 := Lib.hid (HA.out.snoc (p := party + 1 + y) (x := 1 + x) p0 (by omega) (by omega) (by omega))
      have HL : Hid ((ps ++ [(party + 1 + y, 1 + x)]).length = n + 1) := Lib.hid (by rw [List.length_append, HN.out]; rfl)
      clear hown hgrow hat HO HK HD HA
      go_wp2_with fail
      go_roundw
      case rel => exact ⟨k - 1, ps ++ [(party + 1 + y, 1 + x)], left - (1 + x), party + 1 + y, by rw [HL.out]; omega, by congr 1; omega, rfl, rfl, by omega, by omega, by omega, by rw [HL.out]; omega, by rw [HL.out]; exact HO4, HA4, HK4, HD4⟩
      case measure => simp [intOf]; omega
    · have hw : (decide ((0 : Int) < k) = false ∧ decide (0 < k) = false) ∨ decide ((0 : Int) < k) = true ∧ decide (0 < left) = false ∧ decide (0 < k) = true := by
        by_cases c : 0 < k
        · exact .inr ⟨by rw [decide_eq_true_iff]; omega, by rw [decide_eq_false_iff_not]; omega, by rw [decide_eq_true_iff]; exact c⟩
        · exact .inl ⟨by rw [decide_eq_false_iff_not]; omega, by rw [decide_eq_false_iff_not]; omega⟩
      clear hlt
      rcases hw with ⟨hd1, hd2⟩ | ⟨hd1, hd2, hd3⟩
      all_goals
        go_wp2_with fail
        go_ret
        obtain ⟨A, c, rfl, hn, hA⟩ := own_pairs HO.out
        exact ⟨A, ps.length, c, fstOf ps, sndOf ps, rfl, by omega, hn, fun ad h => ⟨by have := hA ad h; omega, hA ad h⟩, HA.out.perr (by omega) (by omega), HK.out, HD.out⟩
end Go.Proofs.Ytlmgfcgakdanaaa
