/- retro.Validate and the reference's Validate: the first fault of a market. -/
import Derived.Test.YtbeikfopneeodaaGreatMt41
import Derived.KernelRfl
namespace Go.Proofs.YtbeikfopneeodaaGreat
open Go.RowKit
set_option linter.unusedVariables false

set_option maxRecDepth 100000 in
theorem int_info : (Tryz.prog.info? 3).map (fun i => (i.zero, i.size, i.bytes)) = some (some (.int .i64 0), 1, 8) := by kernel_rfl

namespace Re
theorem rc_range {n : Nat} {R : Nat → Rt} {i : Nat} {r : Rt} (hr : R i = r) (h : ¬ (0 ≤ r.fr ∧ r.fr < n ∧ 0 ≤ r.ds ∧ r.ds < n)) : rc n R i = 7 := by rw [rc, hr, if_pos h]
theorem rc_same {n : Nat} {R : Nat → Rt} {i : Nat} {r : Rt} (hr : R i = r) (h : 0 ≤ r.fr ∧ r.fr < n ∧ 0 ≤ r.ds ∧ r.ds < n) (h2 : r.fr = r.ds) : rc n R i = 8 := by rw [rc, hr, if_neg (fun c => c h), if_pos h2]
theorem rc_terms {n : Nat} {R : Nat → Rt} {i : Nat} {r : Rt} (hr : R i = r) (h : 0 ≤ r.fr ∧ r.fr < n ∧ 0 ≤ r.ds ∧ r.ds < n) (h2 : r.fr ≠ r.ds) (h3 : ¬ proper r) : rc n R i = 1 := by rw [rc, hr, if_neg (fun c => c h), if_neg h2, if_pos h3]
theorem rc_good {n : Nat} {R : Nat → Rt} {i : Nat} {r : Rt} (hr : R i = r) (h : 0 ≤ r.fr ∧ r.fr < n ∧ 0 ≤ r.ds ∧ r.ds < n) (h2 : r.fr ≠ r.ds) (h3 : proper r) : rc n R i = 0 := by rw [rc, hr, if_neg (fun c => c h), if_neg h2, if_neg (fun c => c h3)]
end Re

set_option maxRecDepth 100000 in
set_option maxHeartbeats 2000000 in
theorem rtvalidate_any (A : Option Addr) (n c : Nat) (o : Nat → Int) (A2 : Option Addr) (m c2 : Nat) (R : Nat → Re.Rt) (w : World) (hn : n ≤ 9223372036854775807) (hm : m ≤ 9223372036854775807)
    (h : Nums w w.heap.size A n o) (h2 : Rets w w.heap.size A2 m R) :
    Calls Tryz.prog 15 #[.slice A n c, .slice A2 m c2] w (IntPost (Re.verr n o m R) w) := by
  by_cases hl : n = 0 ∨ 16 < n ∨ 24 < m
  · have e : Re.verr n o m R = 4 := if_pos hl
    rw [e]
    have hl' : n = 0 ∨ (0 < n ∧ 16 < n) ∨ (0 < n ∧ n ≤ 16 ∧ 24 < m) := by omega
    clear h h2 e hl
    rcases hl' with hl | ⟨hl0, hl⟩ | ⟨hl0, hl1, hl⟩
    · subst hl
      go_enter Tryz.func15, Tryz.ntmps15
      go_wp2
      go_ret
      exact ⟨rfl, Below.refl _ _⟩
    all_goals
      have hz : ((n : Int) == 0) = false := by rw [beq_eq_false_iff_ne]; omega
      go_enter Tryz.func15, Tryz.ntmps15
      go_wp2
      go_ret
      exact ⟨rfl, Below.refl _ _⟩
  have hl0 : 0 < n := by omega
  have hl1 : n ≤ 16 := by omega
  have hl2 : m ≤ 24 := by omega
  have hz : ((n : Int) == 0) = false := by rw [beq_eq_false_iff_ne]; omega
  obtain ⟨S1, hS1⟩ : ∃ S, scan (Re.oc o) (n - 0) 0 = S := ⟨_, rfl⟩
  obtain ⟨S2, hS2⟩ : ∃ S, scan (Re.rc n R) (m - 0) 0 = S := ⟨_, rfl⟩
  obtain ⟨S3, hS3⟩ : ∃ S, scan (Re.sc R) (m - 0) 0 = S := ⟨_, rfl⟩
  have HT : Hid (Re.verr n o m R = if S1 ≠ 0 then 1 else if S2 ≠ 0 then S2 else S3) := Lib.hid (by
    rw [Re.verr, if_neg hl, show scan (Re.oc o) n 0 = S1 from hS1, show scan (Re.rc n R) m 0 = S2 from hS2, show scan (Re.sc R) m 0 = S3 from hS3])
  have HS1 := Lib.hid hS1
  have HS2 := Lib.hid hS2
  have HS3 := Lib.hid hS3
  have H := Lib.hid h
  have H2 := Lib.hid h2
  obtain ⟨V, hV⟩ : ∃ V, Re.verr n o m R = V := ⟨_, rfl⟩
  rw [hV] at HT ⊢
  obtain ⟨i0, hi0, hz0, hz1, hz2⟩ := info_parts int_info
  have HI := Lib.hid hi0
  have HZ0 := Lib.hid hz0
  have HZ1 := Lib.hid hz1
  have HZ2 := Lib.hid hz2
  clear hi0 hz0 hz1 hz2 hV hS1 hS2 hS3 h h2 hl hn hm
  go_enter Tryz.func15, Tryz.ntmps15
  go_wp2
  go_loopw [6, 27] (fun _ i wr => ∃ k : Nat, k ≤ n ∧ i = .int .i64 k ∧ Hid (scan (Re.oc o) (n - k) k = S1) ∧ Hid (Below w.heap.size w wr)) (fun _ i _ => n - (intOf i).toNat)
  case atStart => exact ⟨0, Nat.zero_le _, rfl, HS1, Lib.hid (Below.refl _ _)⟩
  case round =>
    obtain ⟨k, hk, rfl, HS, HB⟩ := hrel
    have hs := HB.out.size
    by_cases hlt : k < n
    · obtain ⟨b, of, rfl, had, hc0⟩ := ((H.out.below HB.out).mono hs).get hlt
      obtain ⟨x, hx⟩ : ∃ x, o k = x := ⟨_, rfl⟩
      rw [hx] at hc0
      by_cases hh : 0 ≤ x ∧ x ≤ 1073741824
      · have HG : Hid (scan (Re.oc o) (n - (k + 1)) (k + 1) = S1) := Lib.hid (by rw [← scan_go _ hlt (if_pos (by rw [hx]; exact hh))]; exact HS.out)
        obtain ⟨hh0, hh1⟩ := hh
        clear hx HS
        go_wp2_with fail
        go_roundw
        case rel => exact ⟨k + 1, by omega, by go_num, HG, HB⟩
        case measure => simp [intOf]; omega
      · have he : Re.oc o k = 1 := if_neg (by rw [hx]; exact hh)
        have HG : Hid (1 = S1) := Lib.hid (by rw [← HS.out, scan_stop _ hlt (by rw [he]; omega), he])
        have hh' : x < 0 ∨ 0 ≤ x ∧ 1073741824 < x := by omega
        clear hx HS hh he
        rcases hh' with hh | ⟨hh, hh2⟩
        all_goals
          go_wp2_with fail
          go_ret
          exact ⟨ret_i64 (by rw [HT.out, if_pos (by rw [← HG.out]; omega)]), HB.out⟩
    · have hkn : k = n := by omega
      have hS0 : S1 = 0 := by rw [← HS.out, hkn, scan_end]
      replace HT : Hid (V = if S2 ≠ 0 then S2 else S3) := Lib.hid (by rw [HT.out, if_neg (by rw [hS0]; simp)])
      clear hS0 HS HS1
      go_wp2_with fail
      go_loopw [8, 40] (fun _ i wr => ∃ k : Nat, k ≤ m ∧ i = .int .i64 k ∧ Hid (scan (Re.rc n R) (m - k) k = S2) ∧ Hid (Below w.heap.size w wr)) (fun _ i _ => m - (intOf i).toNat)
      case atStart => exact ⟨0, Nat.zero_le _, rfl, HS2, HB⟩
      case round =>
        clear HB hs hkn hlt
        obtain ⟨k, hk, rfl, HS, HB⟩ := hrel
        have hs := HB.out.size
        by_cases hlt : k < m
        · obtain ⟨b, of, rfl, had, hc0, hc1, hc2, hc3, hc4⟩ := ((H2.out.below HB.out).mono hs).get hlt
          obtain ⟨r, hr⟩ : ∃ r, R k = r := ⟨_, rfl⟩
          rw [hr] at hc0 hc1 hc2 hc3 hc4
          have HR := Lib.hid hr
          clear hr
          obtain ⟨fr, ds, sh, re, li⟩ := r
          simp only at hc0 hc1 hc2 hc3 hc4
          by_cases hh : 0 ≤ fr ∧ fr < n ∧ 0 ≤ ds ∧ ds < n
          · by_cases he : fr = ds
            · have hc := Re.rc_same HR.out hh he
              have HG : Hid (8 = S2) := Lib.hid (by rw [← HS.out, scan_stop _ hlt (by rw [hc]; omega), hc])
              subst he
              obtain ⟨g0, g1, g2, g3⟩ := hh
              clear HS hc
              go_wp2_with fail
              go_ret
              exact ⟨ret_i64 (by rw [HT.out, if_pos (by rw [← HG.out]; omega), ← HG.out]), HB.out.alloc hs _⟩
            · have CP := Lib.hid (proper_any ⟨fr, ds, sh, re, li⟩)
              have he2 : (fr == ds) = false := by rw [beq_eq_false_iff_ne]; exact he
              by_cases hp : Re.proper ⟨fr, ds, sh, re, li⟩
              · have hc := Re.rc_good HR.out hh he hp
                have HG : Hid (scan (Re.rc n R) (m - (k + 1)) (k + 1) = S2) := Lib.hid (by rw [← scan_go _ hlt hc]; exact HS.out)
                obtain ⟨g0, g1, g2, g3⟩ := hh
                rw [decide_eq_true hp] at CP
                unfold Re.Rt.agg at CP
                clear HS hc hp
                go_wp2_with fail
                refine (CP.out _).mono ?_
                rintro e w1 ⟨rfl, hb⟩
                have HB2 : Hid (Below w.heap.size w w1) := Lib.hid ((HB.out.alloc hs _).trans (hb.mono (by simp; omega)))
                clear hb
                go_wp2_with fail
                go_roundw
                case rel => exact ⟨k + 1, by omega, by go_num, HG, HB2⟩
                case measure => simp [intOf]; omega
              · have hc := Re.rc_terms HR.out hh he hp
                have HG : Hid (1 = S2) := Lib.hid (by rw [← HS.out, scan_stop _ hlt (by rw [hc]; omega), hc])
                obtain ⟨g0, g1, g2, g3⟩ := hh
                rw [decide_eq_false hp] at CP
                unfold Re.Rt.agg at CP
                clear HS hc hp
                go_wp2_with fail
                refine (CP.out _).mono ?_
                rintro e w1 ⟨rfl, hb⟩
                have HB2 : Hid (Below w.heap.size w w1) := Lib.hid ((HB.out.alloc hs _).trans (hb.mono (by simp; omega)))
                clear hb
                go_wp2_with fail
                go_ret
                exact ⟨ret_i64 (by rw [HT.out, if_pos (by rw [← HG.out]; omega), ← HG.out]), HB2.out⟩
          · have hc := Re.rc_range HR.out hh
            have HG : Hid (7 = S2) := Lib.hid (by rw [← HS.out, scan_stop _ hlt (by rw [hc]; omega), hc])
            have hh' : fr < 0 ∨ 0 ≤ fr ∧ (n : Int) ≤ fr ∨ (0 ≤ fr ∧ fr < n) ∧ (ds < 0 ∨ 0 ≤ ds ∧ (n : Int) ≤ ds) := by omega
            clear HS hc hh
            rcases hh' with g0 | ⟨g0, g1⟩ | ⟨⟨g0, g1⟩, g2 | ⟨g2, g3⟩⟩
            all_goals
              go_wp2_with fail
              go_ret
              exact ⟨ret_i64 (by rw [HT.out, if_pos (by rw [← HG.out]; omega), ← HG.out]), HB.out.alloc hs _⟩
        · have hkn : k = m := by omega
          have hS0 : S2 = 0 := by rw [← HS.out, hkn, scan_end]
          have HF : Hid (∀ j, j < m → (0 ≤ (R j).fr ∧ (R j).fr < n ∧ 0 ≤ (R j).ds ∧ (R j).ds < n) ∧ (R j).fr ≠ (R j).ds ∧ Re.proper (R j)) := Lib.hid fun j hj =>
            Re.rc_fine (scan_zero (Re.rc n R) (m - 0) 0 (by rw [HS2.out, hS0]) j (by omega) (by omega))
          replace HT : Hid (V = S3) := Lib.hid (by rw [HT.out, if_neg (by rw [hS0]; simp)])
          clear hS0 HS HS2
          obtain ⟨W1, hmk, ho, hg⟩ := run_make_full (P := Tryz.prog) wr w.heap.size 22 3 i0 (.int .i64 0) 1 Tryz.underlying22 HI.out HZ0.out HZ1.out .i64 .i64 n (by rw [HZ2.out]; omega) (by unfold maxLen; omega) hs
          have hrow : Row W1 wr.heap.size n 3 (fun i => .int .i64 (Re.shs R 0 i)) := by
            have := Row.made (h := fun i => .int .i64 (Re.shs R 0 i)) ho (fun j hj => by rw [Nat.mul_one] at hj; simp [Re.shs, Re.acc, Value.cells, madeCells, hj, Nat.mod_one])
            rwa [Nat.mul_one] at this
          have HR0 := Lib.hid hrow
          have HB1 : Hid (Below w.heap.size w W1) := Lib.hid (HB.out.grown hg hs (fun _ h => by cases h))
          have hgs : w.heap.size ≤ wr.heap.size := hs
          obtain ⟨gb, hgb⟩ : ∃ g, wr.heap.size = g := ⟨_, rfl⟩
          clear ho hrow hg
          rw [hgb] at HR0 hgs
          go_wp2_with fail
          clear hmk hgb hs HB hlt hkn
          go_loopw [11, 83] (fun _ i wr => ∃ j : Nat, j ≤ m ∧ i = .int .i64 j ∧ Hid (scan (Re.sc R) (m - j) j = S3) ∧ Hid (Row wr gb n 3 (fun i => .int .i64 (Re.shs R j i))) ∧ Hid (Below w.heap.size w wr)) (fun _ i _ => m - (intOf i).toNat)
          case atStart => exact ⟨0, Nat.zero_le _, rfl, HS3, HR0, HB1⟩
          case round =>
            clear HR0 HB1
            obtain ⟨k, hk, rfl, HS, HRW, HB⟩ := hrel
            have hs := HB.out.size
            by_cases hlt : k < m
            · obtain ⟨b, of, rfl, had, hc0, hc1, hc2, hc3, hc4⟩ := ((H2.out.below HB.out).mono hs).get hlt
              have hf := HF.out k hlt
              obtain ⟨r, hr⟩ : ∃ r, R k = r := ⟨_, rfl⟩
              rw [hr] at hc0 hc1 hc2 hc3 hc4 hf
              have HR := Lib.hid hr
              clear hr
              obtain ⟨fr, ds, sh, re, li⟩ := r
              simp only at hc0 hc1 hc2 hc3 hc4 hf
              obtain ⟨⟨g0, g1, _, _⟩, _, p0, p1, _⟩ := hf
              simp only at p0 p1
              obtain ⟨f, rfl⟩ : ∃ f : Nat, fr = f := ⟨fr.toNat, by omega⟩
              have hfn : f < n := by omega
              have HFN : Hid (Re.frN R k = f) := Lib.hid (by rw [Re.frN, HR.out]; simp)
              have hsb := Re.acc_bound (fun _ => 0) (Re.frN R) (fun j => (R j).sh) 1000000 k f (fun j hj => by have := (HF.out j (by omega)).2.2; exact ⟨by have := this.1; omega, this.2.1⟩) (by omega)
              obtain ⟨s, hs'⟩ : ∃ s, Re.shs R k f = s := ⟨_, rfl⟩
              have hsb1 : 0 ≤ s ∧ s ≤ 24000000 := by rw [← hs', Re.shs]; omega
              obtain ⟨s0, s1⟩ := hsb1
              have hq0 := HRW.out.cell f hfn
              have hq1 := HRW.out.free f
              rw [hs'] at hq0
              have hgl := HRW.out.lt
              have HSS : Hid (Re.shs R (k + 1) f = s + sh) := Lib.hid (by rw [Re.shs, Re.acc_hit _ _ HFN.out.symm, HR.out, ← hs']; rfl)
              have HRW2 : Hid (∀ W : World, Row W gb n 3 (fun i => .int .i64 (Re.shs R k i)) → Row (W.setCell ⟨gb, f, none⟩ (.int .i64 (s + sh))) gb n 3 (fun i => .int .i64 (Re.shs R (k + 1) i))) := Lib.hid fun W hW => (hW.put f _).congr fun j hj => by
                by_cases e : j = f
                · rw [if_pos e, e, HSS.out]
                · rw [if_neg e, show Re.shs R (k + 1) j = Re.shs R k j from Re.acc_miss _ _ (by rw [HFN.out]; exact e)]
              have hw1 : IntKind.i64.wrap (s + sh) = s + sh := by rw [IntKind.wrap_i64]; omega
              clear hsb hs'
              by_cases hov : 1000000 < s + sh
              · have hc : Re.sc R k = 14 := if_pos (by rw [HFN.out, HSS.out]; exact hov)
                have HG : Hid (14 = S3) := Lib.hid (by rw [← HS.out, scan_stop _ hlt (by rw [hc]; omega), hc])
                clear HS hc
                go_wp2_with fail
                go_region
                all_goals
                  go_wp2_with fail
                  go_ret
                  exact ⟨ret_i64 (by rw [HT.out, ← HG.out]), ((HB.out.setCell (by simp only; omega) _).alloc (by simp; omega) _).drew⟩
              · have hc : Re.sc R k = 0 := if_neg (by rw [HFN.out, HSS.out]; exact hov)
                have HG : Hid (scan (Re.sc R) (m - (k + 1)) (k + 1) = S3) := Lib.hid (by rw [← scan_go _ hlt hc]; exact HS.out)
                clear HS hc
                go_wp2_with fail
                go_region
                all_goals
                  go_wp2_with fail
                  go_roundw
                  case rel => exact ⟨k + 1, by omega, by go_num, HG, Lib.hid ((HRW2.out _ HRW.out).alloc _).drew, Lib.hid ((HB.out.setCell (by simp only; omega) _).alloc (by simp; omega) _).drew⟩
                  case measure => simp [intOf]; omega
            · have hkn : k = m := by omega
              have HE : Hid (0 = S3) := Lib.hid (by rw [← HS.out, hkn, scan_end])
              go_wp2_with fail
              go_ret
              exact ⟨ret_i64 (by rw [HT.out, ← HE.out]), HB.out⟩
end Go.Proofs.YtbeikfopneeodaaGreat
