/- Sum of package amount and Sum of the reference both return Am.sumR; Clamp of package amount. -/
import Derived.Test.YtgdlnackpfbmbaaAmWalks
import Derived.Test.YtgdlnackpfbmbaaRefAm
import Derived.Test.YtgdlnackpfbmbaaMade
import Derived.Test.YtgdlnackpfbmbaaMem
namespace Go.Proofs.Ytgdlnackpfbmbaa
open Go.RowKit

namespace Am
/-- the sum of a list, or the error's number -/
def sumR (zs : List Int) : Int × Int :=
  if 65536 < zs.length then (0, 4) else if zs.all validB = false then (0, 1) else if validB zs.sum = false then (0, 3) else (zs.sum, 0)

theorem sum_bound (zs : List Int) (h : zs.all validB = true) : -17592186044416 * zs.length ≤ zs.sum ∧ zs.sum ≤ 17592186044416 * zs.length := by
  induction zs with
  | nil => simp
  | cons z zs ih =>
    simp only [List.all_cons, Bool.and_eq_true] at h
    have h1 := (validB_iff z).1 h.1
    have h2 := ih h.2
    simp only [List.sum_cons, List.length_cons]
    omega

theorem all_take_succ (zs : List Int) (k : Nat) (h : k < zs.length) : (zs.take (k + 1)).all validB = ((zs.take k).all validB && validB (nth zs k)) := by
  rw [take_nth zs k h, List.all_append]; simp

theorem sum_take_succ (zs : List Int) (k : Nat) (h : k < zs.length) : (zs.take (k + 1)).sum = (zs.take k).sum + nth zs k := by
  rw [take_nth zs k h, List.sum_append]; simp

theorem all_false_of (zs : List Int) (k : Nat) (h : k < zs.length) (hv : validB (nth zs k) = false) : zs.all validB = false := by
  rw [List.all_eq_false]
  exact ⟨nth zs k, nth_mem zs k h, by rw [hv]; simp⟩
end Am

set_option maxHeartbeats 400000 in
theorem sum_any (A : Option Addr) (c B : Nat) (zs : List Int) (w : World) (hz : zs.length ≤ 9223372036854775807) (h : Ints w B A zs) :
    Calls Try.prog 18 #[.slice A zs.length c] w fun e w' => e = .returned (.tuple #[.int .i64 (Am.sumR zs).1, .int .i64 (Am.sumR zs).2]) ∧ w = w' := by
  obtain ⟨n, hn⟩ : ∃ n, zs.length = n := ⟨_, rfl⟩
  by_cases hl : 65536 < zs.length
  · rw [Am.sumR, if_pos hl]
    rw [hn] at hl hz ⊢
    clear hn h
    go_enter Try.func18, Try.ntmps18
    go_wp2
    go_ret2
    exact ⟨rfl, rfl⟩
  have hres : ∀ k, k ≤ zs.length → (zs.take k).all Am.validB = true → k = zs.length → Am.validB zs.sum = false → Am.sumR zs = (0, 3) := fun k _ h2 h3 h4 => by
    subst h3
    rw [List.take_length] at h2
    rw [Am.sumR, if_neg hl, if_neg (by rw [h2]; simp), if_pos h4]
  have hres2 : ∀ k, k ≤ zs.length → (zs.take k).all Am.validB = true → k = zs.length → Am.validB zs.sum = true → Am.sumR zs = (zs.sum, 0) := fun k _ h2 h3 h4 => by
    subst h3
    rw [List.take_length] at h2
    rw [Am.sumR, if_neg hl, if_neg (by rw [h2]; simp), if_neg (by rw [h4]; simp)]
  have hres3 : ∀ k, k < zs.length → Am.validB (nth zs k) = false → Am.sumR zs = (0, 1) := fun k h1 h2 => by
    rw [Am.sumR, if_neg hl, if_pos (Am.all_false_of zs k h1 h2)]
  have HR := Lib.hid hres
  have HR2 := Lib.hid hres2
  have HR3 := Lib.hid hres3
  obtain ⟨o1, ho1⟩ : ∃ o, (Am.sumR zs).1 = o := ⟨_, rfl⟩
  obtain ⟨o2, ho2⟩ : ∃ o, (Am.sumR zs).2 = o := ⟨_, rfl⟩
  rw [ho1, ho2, hn]
  have H := Lib.hid h
  have HN := Lib.hid hn
  have HO1 := Lib.hid ho1
  have HO2 := Lib.hid ho2
  have hl' : n ≤ 65536 := by omega
  clear hres hres2 hres3 h hn ho1 ho2 hl hz
  go_enter Try.func18, Try.ntmps18
  go_wp2
  go_loop [4, 12] (fun s i => ∃ (k : Nat) (t : Int), k ≤ n ∧ i = .int .i64 k ∧ s = .int .i64 t ∧ Hid (t = (zs.take k).sum) ∧ Hid ((zs.take k).all Am.validB = true)) (fun _ i => n - (intOf i).toNat)
  case atStart => exact ⟨0, 0, Nat.zero_le _, rfl, rfl, Lib.hid rfl, Lib.hid rfl⟩
  case round =>
    obtain ⟨k, t, hk, rfl, rfl, ht, hv⟩ := hrel
    have hb := Am.sum_bound _ hv.out
    rw [← ht.out, List.length_take, HN.out] at hb
    have hb1 : -17592186044416 * 65536 ≤ t ∧ t ≤ 17592186044416 * 65536 := by omega
    obtain ⟨hb2, hb3⟩ := hb1
    clear hb
    by_cases hlt : k < n
    · have hlt' : k < zs.length := by rw [HN.out]; exact hlt
      obtain ⟨ad, hA, _, hc⟩ := H.out.get hlt'
      subst hA
      obtain ⟨x, hx⟩ : ∃ x, nth zs k = x := ⟨_, rfl⟩
      rw [hx] at hc
      have hs := Am.sum_take_succ zs k hlt'
      have ha := Am.all_take_succ zs k hlt'
      rw [hx, ← ht.out] at hs
      rw [hx, hv.out, Bool.true_and] at ha
      have HS := Lib.hid hs
      have HA := Lib.hid ha
      have HX := Lib.hid hx
      clear hs ha hx hlt'
      cases hvx : Am.validB x
      · go_wp2_with (go_at_call 21; refine (valid_any _ _).mono ?_; rintro e w' ⟨rfl, rfl⟩)
        go_ret2
        have e := HR3.out k (by rw [HN.out]; exact hlt) (by rw [HX.out]; exact hvx)
        rw [← HO1.out, ← HO2.out, e]
        exact ⟨rfl, rfl⟩
      · obtain ⟨hx1, hx2⟩ := (Am.validB_iff x).1 hvx
        go_wp2_with (go_at_call 21; refine (valid_any _ _).mono ?_; rintro e w' ⟨rfl, rfl⟩)
        go_round
        case rel => exact ⟨k + 1, t + x, by omega, by go_num, rfl, Lib.hid HS.out.symm, Lib.hid (by rw [HA.out]; exact hvx)⟩
        case measure => simp [intOf]; omega
    · have hkn : k = zs.length := by rw [HN.out]; omega
      have hts : zs.sum = t := by rw [ht.out, hkn, List.take_length]
      have HTS := Lib.hid hts
      have HKN := Lib.hid hkn
      clear hts hkn
      cases hvx : Am.validB t
      · go_wp2_with (go_at_call 21; refine (valid_any _ _).mono ?_; rintro e w' ⟨rfl, rfl⟩)
        go_ret2
        have e := HR.out k (by rw [HN.out]; exact hk) hv.out HKN.out (by rw [HTS.out]; exact hvx)
        rw [← HO1.out, ← HO2.out, e]
        exact ⟨rfl, rfl⟩
      · go_wp2_with (go_at_call 21; refine (valid_any _ _).mono ?_; rintro e w' ⟨rfl, rfl⟩)
        go_ret2
        have e := HR2.out k (by rw [HN.out]; exact hk) hv.out HKN.out (by rw [HTS.out]; exact hvx)
        rw [← HO1.out, ← HO2.out, e, HTS.out]
        exact ⟨rfl, rfl⟩

set_option maxHeartbeats 400000 in
theorem rsum_any (A : Option Addr) (c B : Nat) (zs : List Int) (w : World) (hz : zs.length ≤ 9223372036854775807) (h : Ints w B A zs) :
    Calls Try.prog 19 #[.slice A zs.length c] w fun e w' => e = .returned (.tuple #[.int .i64 (Am.sumR zs).1, .int .i64 (Am.sumR zs).2]) ∧ w = w' := by
  obtain ⟨n, hn⟩ : ∃ n, zs.length = n := ⟨_, rfl⟩
  by_cases hl : 65536 < zs.length
  · rw [Am.sumR, if_pos hl]
    rw [hn] at hl hz ⊢
    clear hn h
    go_enter Try.func19, Try.ntmps19
    go_wp2
    go_ret2
    exact ⟨rfl, rfl⟩
  have hres : ∀ k, k ≤ zs.length → (zs.take k).all Am.validB = true → k = zs.length → Am.validB zs.sum = false → Am.sumR zs = (0, 3) := fun k _ h2 h3 h4 => by
    subst h3
    rw [List.take_length] at h2
    rw [Am.sumR, if_neg hl, if_neg (by rw [h2]; simp), if_pos h4]
  have hres2 : ∀ k, k ≤ zs.length → (zs.take k).all Am.validB = true → k = zs.length → Am.validB zs.sum = true → Am.sumR zs = (zs.sum, 0) := fun k _ h2 h3 h4 => by
    subst h3
    rw [List.take_length] at h2
    rw [Am.sumR, if_neg hl, if_neg (by rw [h2]; simp), if_neg (by rw [h4]; simp)]
  have hres3 : ∀ k, k < zs.length → Am.validB (nth zs k) = false → Am.sumR zs = (0, 1) := fun k h1 h2 => by
    rw [Am.sumR, if_neg hl, if_pos (Am.all_false_of zs k h1 h2)]
  have HR := Lib.hid hres
  have HR2 := Lib.hid hres2
  have HR3 := Lib.hid hres3
  obtain ⟨o1, ho1⟩ : ∃ o, (Am.sumR zs).1 = o := ⟨_, rfl⟩
  obtain ⟨o2, ho2⟩ : ∃ o, (Am.sumR zs).2 = o := ⟨_, rfl⟩
  rw [ho1, ho2, hn]
  have H := Lib.hid h
  have HN := Lib.hid hn
  have HO1 := Lib.hid ho1
  have HO2 := Lib.hid ho2
  have hl' : n ≤ 65536 := by omega
  clear hres hres2 hres3 h hn ho1 ho2 hl hz
  go_enter Try.func19, Try.ntmps19
  go_wp2
  go_loop [4, 5] (fun s i => ∃ (k : Nat) (t : Int), k ≤ n ∧ i = .int .i64 k ∧ s = .int .i64 t ∧ Hid (t = (zs.take k).sum) ∧ Hid ((zs.take k).all Am.validB = true)) (fun _ i => n - (intOf i).toNat)
  case atStart => exact ⟨0, 0, Nat.zero_le _, rfl, rfl, Lib.hid rfl, Lib.hid rfl⟩
  case round =>
    obtain ⟨k, t, hk, rfl, rfl, ht, hv⟩ := hrel
    have hb := Am.sum_bound _ hv.out
    rw [← ht.out, List.length_take, HN.out] at hb
    have hb1 : -17592186044416 * 65536 ≤ t ∧ t ≤ 17592186044416 * 65536 := by omega
    obtain ⟨hb2, hb3⟩ := hb1
    clear hb
    by_cases hlt : k < n
    · have hlt' : k < zs.length := by rw [HN.out]; exact hlt
      obtain ⟨ad, hA, _, hc⟩ := H.out.get hlt'
      subst hA
      obtain ⟨x, hx⟩ : ∃ x, nth zs k = x := ⟨_, rfl⟩
      rw [hx] at hc
      have hs := Am.sum_take_succ zs k hlt'
      have ha := Am.all_take_succ zs k hlt'
      rw [hx, ← ht.out] at hs
      rw [hx, hv.out, Bool.true_and] at ha
      have HS := Lib.hid hs
      have HA := Lib.hid ha
      have HX := Lib.hid hx
      clear hs ha hx hlt'
      cases hvx : Am.validB x
      · go_wp2_with (go_at_call 22; refine (rvalid_any _ _).mono ?_; rintro e w' ⟨rfl, rfl⟩)
        go_ret2
        have e := HR3.out k (by rw [HN.out]; exact hlt) (by rw [HX.out]; exact hvx)
        rw [← HO1.out, ← HO2.out, e]
        exact ⟨rfl, rfl⟩
      · obtain ⟨hx1, hx2⟩ := (Am.validB_iff x).1 hvx
        go_wp2_with (go_at_call 22; refine (rvalid_any _ _).mono ?_; rintro e w' ⟨rfl, rfl⟩)
        go_round
        case rel => exact ⟨k + 1, t + x, by omega, by go_num, rfl, Lib.hid HS.out.symm, Lib.hid (by rw [HA.out]; exact hvx)⟩
        case measure => simp [intOf]; omega
    · have hkn : k = zs.length := by rw [HN.out]; omega
      have hts : zs.sum = t := by rw [ht.out, hkn, List.take_length]
      have HTS := Lib.hid hts
      have HKN := Lib.hid hkn
      clear hts hkn
      cases hvx : Am.validB t
      · go_wp2_with (go_at_call 22; refine (rvalid_any _ _).mono ?_; rintro e w' ⟨rfl, rfl⟩)
        go_ret2
        have e := HR.out k (by rw [HN.out]; exact hk) hv.out HKN.out (by rw [HTS.out]; exact hvx)
        rw [← HO1.out, ← HO2.out, e]
        exact ⟨rfl, rfl⟩
      · go_wp2_with (go_at_call 22; refine (rvalid_any _ _).mono ?_; rintro e w' ⟨rfl, rfl⟩)
        go_ret2
        have e := HR2.out k (by rw [HN.out]; exact hk) hv.out HKN.out (by rw [HTS.out]; exact hvx)
        rw [← HO1.out, ← HO2.out, e, HTS.out]
        exact ⟨rfl, rfl⟩
end Go.Proofs.Ytgdlnackpfbmbaa
