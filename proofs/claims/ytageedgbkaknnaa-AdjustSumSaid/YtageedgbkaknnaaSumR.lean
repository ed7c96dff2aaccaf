/- The reference's SumAdjustments: what it returns, for every list. -/
import Derived.Test.YtageedgbkaknnaaSumA
namespace Go.Proofs.Ytageedgbkaknnaa
open Go.RowKit
set_option linter.unusedVariables false

/-- the reference's fields: a new list of the nine numbers -/
def FldPost (f : Nat → Int) (j : Nat) (w : World) (e : Ending) (w' : World) : Prop := ∃ g, e = .returned (.slice (some ⟨g, 0, none⟩) 9 9) ∧ Has w' g (row9 f j).toArray 3 ∧ w.heap.size ≤ g ∧ Below w.heap.size w w'
set_option maxHeartbeats 1000000 in
theorem rfields_any (f : Nat → Int) (j : Nat) (w : World) : Calls Try.prog 35 #[.agg (row9 f j).toArray] w (FldPost f j w) := by
  unfold row9
  go_enter Try.func35, Try.ntmps35
  go_wp2_with fail
  go_ret
  exact ⟨w.heap.size + 1, rfl, Has.new' _ _ _ _ (by simp), by omega, ((Below.refl _ _).alloc (Nat.le_refl _) _).alloc (by simp) _⟩

/-- what stands while the sums are made: R the result, N the sums -/
structure RSumSt (w : World) (R N : Nat) (A : Option Addr) (n : Nat) (f : Nat → Int) (W : World) : Prop where
  hr : Has W R z9 28
  fl : Nums W R A (n * 9) f
  bl : Below w.heap.size w W
  RN : R < N
  wR : w.heap.size ≤ R
section
variable {w W W' : World} {R N n : Nat} {A : Option Addr} {f : Nat → Int}
theorem RSumSt.next (h : RSumSt w R N A n f W) (hb : Below W.heap.size W W') : RSumSt w R N A n f W' :=
  have h3 := h.hr.lt
  ⟨h.hr.below hb h3, h.fl.below (hb.mono (by omega)), h.bl.trans (hb.mono h.bl.size), h.RN, h.wR⟩
theorem RSumSt.put (h : RSumSt w R N A n f W) (k : Nat) (u : Value) : RSumSt w R N A n f (W.setCell ⟨N, k, none⟩ u) :=
  have h1 := h.RN; have h3 := h.wR
  ⟨h.hr.far (by simp only; omega) u, Cells.setCell h.fl (by simp only; omega) u, h.bl.setCell (by simp only; omega) u, h.RN, h.wR⟩
end

set_option maxRecDepth 100000 in
theorem int_info : (Try.prog.info? 3).map (fun i => (i.zero, i.size, i.bytes)) = some (some (.int .i64 0), 1, 8) := by kernel_rfl

set_option maxRecDepth 100000 in
set_option maxHeartbeats 4000000 in
theorem rsum_any (A : Option Addr) (n c : Nat) (f : Nat → Int) (w : World) (hn : n ≤ 9223372036854775807) (h : Nums w w.heap.size A (n * 9) f) : Calls Try.prog 16 #[.slice A n c] w (SumPost n f w) := by
  have HF := Lib.hid h
  have HAI := Lib.hid adj_info
  clear h
  by_cases hm : 64 < n
  · have hm' : (64 : Int) < n := by omega
    have he := sum_bad (f := f) (Ad.serr_many hm) (by omega)
    have HE := Lib.hid he
    clear he
    go_enter Try.func16, Try.ntmps16
    go_wp2_with fail
    refine bodyPost_ret (v := .tuple #[.agg #[.int .i64 0, .int .i64 0, .int .i64 0, .int .i64 0, .int .i64 0, .int .i64 0, .int .i64 0, .int .i64 0, .int .i64 0], .int .i64 4]) (by simp [results, Try.results16, go_sem]) rfl ⟨HE.out ▸ rfl, (Below.refl _ _).alloc (Nat.le_refl _) _⟩
  · have hm1 : n ≤ 64 := by omega
    have hm' : (n : Int) ≤ 64 := by omega
    obtain ⟨i0, hi0, hz0, hz1, hz2⟩ := info_parts int_info
    obtain ⟨W1, hmk, ho, hg⟩ := run_make_full (P := Try.prog) (w.alloc (.cells z9 28)) w.heap.size 24 3 i0 (.int .i64 0) 1 Try.underlying24 hi0 hz0 hz1 .i64 .i64 9 (by rw [hz2]; omega) (by unfold maxLen; omega) (by simp)
    have hrow : Row W1 (w.heap.size + 1) 9 3 (fun k => .int .i64 (Ad.fpart f 0 0 k)) := by
      have h1 := Row.made (h := fun k => .int .i64 (Ad.fpart f 0 0 k)) ho (fun j hj => by
        have e : Ad.fpart f 0 0 j = 0 := Ad.fpart_zero
        rw [Nat.mul_one] at hj
        simp [Value.cells, madeCells, hj, Nat.mod_one, e])
      simpa using h1
    have hb1 : Below (w.heap.size + 1) (w.alloc (.cells z9 28)) W1 := (Below.refl _ _).grown hg (by simp) (fun _ h => by cases h)
    have HS : Hid (RSumSt w w.heap.size (w.heap.size + 1) A n f W1) := Lib.hid ⟨(Has.new w z9 _).below hb1 (by omega), (HF.out.alloc (Nat.le_refl _) _).below (hb1.mono (by omega)), ((Below.refl _ _).alloc (Nat.le_refl _) _).trans (hb1.mono (by omega)), by omega, Nat.le_refl _⟩
    have HRW := Lib.hid hrow
    obtain ⟨R, hR⟩ : ∃ R, w.heap.size = R := ⟨_, rfl⟩
    obtain ⟨N, hN⟩ : ∃ N, R + 1 = N := ⟨_, rfl⟩
    have HWR : Hid (w.heap.size = R) := Lib.hid hR
    have hmk2 : (Instr.makeSlice 24 (.int .i64 9) (.int .i64 9)).run Try.prog (w.alloc (.cells #[.int .i64 0, .int .i64 0, .int .i64 0, .int .i64 0, .int .i64 0, .int .i64 0, .int .i64 0, .int .i64 0, .int .i64 0] 28)) = .ok (.slice (some ⟨N, 0, none⟩) 9 9) W1 := by
      rw [← hN, ← hR]
      simpa using hmk
    rw [hR] at HS HRW
    rw [hN] at HS HRW
    have HMK := Lib.hid hmk2
    clear hm hi0 hz0 hz1 hz2 ho hg hrow hb1 HF hmk hmk2 hN
    go_enter Try.func16, Try.ntmps16
    go_upto_region 3 with (fail)
    have hmk := HMK.out
    go_wp2_with fail
    clear hmk HMK hR
    go_loopw [5] (fun i wr => ∃ j : Nat, j ≤ n ∧ i = .int .i64 j ∧ Hid (RSumSt w R N A n f wr) ∧ Hid (Row wr N 9 3 (fun k => .int .i64 (Ad.fpart f j 0 k))) ∧ Hid (∀ p, p < j * 9 → Ad.amt (f p))) (fun i _ => n - (intOf i).toNat)
    case atStart => exact ⟨0, Nat.zero_le _, rfl, HS, HRW, Lib.hid fun p hp => by omega⟩
    case round =>
      clear HS HRW
      obtain ⟨j, hj, rfl, HS, HRW, HAM⟩ := hrel
      by_cases hlt : j < n
      · obtain ⟨b, o, rfl, hbR, hcell⟩ := Nums.nine HS.out.fl hlt
        have HCE := Lib.hid hcell
        have hj0 : (0 : Int) ≤ j := by omega
        have hj1 : (j : Int) < n := by omega
        clear hcell
        go_wp2_with (first | (refine wpList_load_mid ?_ 28 (.tmp 22) ?_ b (o + j * 9) ?_ _ _ HCE.out Try.underlying28 ?_ HAI.out ?_; rfl; rfl; rfl; rfl))
        refine (rfields_any f j _).mono ?_
        rintro e w5 ⟨a, rfl, hfa, ha, hb⟩
        have HA := Lib.hid hfa
        have hNa : N < a := by have := HRW.out.lt; omega
        replace HRW := Lib.hid (HRW.out.below hb HRW.out.lt)
        replace HS := Lib.hid (HS.out.next hb)
        clear hb hfa ha HCE
        try simp only
        go_wp2_with fail
        go_loopw [7] (fun i wr => ∃ q : Nat, q ≤ 9 ∧ i = .int .i64 q ∧ Hid (RSumSt w R N (some ⟨b, o, none⟩) n f wr) ∧ Hid (Row wr N 9 3 (fun k => .int .i64 (Ad.fpart f j q k))) ∧ Hid (Has wr a (row9 f j).toArray 3) ∧ Hid (∀ p, p < j * 9 + q → Ad.amt (f p))) (fun i _ => 9 - (intOf i).toNat)
        case atStart => exact ⟨0, Nat.zero_le _, rfl, HS, HRW, HA, HAM⟩
        case round =>
          clear HS HRW HA HAM
          obtain ⟨q, hq, rfl, HS, HRW, HA, HAM⟩ := hrel
          by_cases hq9 : q < 9
          · have hr0 := HRW.out.cell q hq9
            have hrf := HRW.out.free q
            have ha0 : wr.cell? ⟨a, q, none⟩ = some (.int .i64 (f (j * 9 + q))) := by rw [HA.out.cell]; simpa using row9_get hq9
            obtain ⟨x, hx⟩ : ∃ x, f (j * 9 + q) = x := ⟨_, rfl⟩
            obtain ⟨s, hs⟩ : ∃ x, Ad.fpart f j q q = x := ⟨_, rfl⟩
            rw [hx] at ha0
            rw [hs] at hr0
            have hq0 : (0 : Int) ≤ q := by omega
            have hq1 : (q : Int) < 9 := by omega
            have hsb := Ad.fpart_bound HAM.out (by omega) hq9
            rw [hs] at hsb
            obtain ⟨s0, s1⟩ := hsb
            have HXX := Lib.hid hx
            have HSS := Lib.hid hs
            have hne : a ≠ N := by omega
            clear hx hs
            by_cases ham : Ad.amt x
            · obtain ⟨x0, x1⟩ := ham
              go_wp2_with fail
              go_region
              all_goals
                go_wp2_with fail
                go_roundw
                case rel => exact ⟨q + 1, by omega, by go_num, Lib.hid ((HS.out.put q _).next (Below.drew (Below.refl _ _))), Lib.hid (((HRW.out.put q (.int .i64 (s + x))).congr (fun k hk => by rw [Ad.fpart_step]; by_cases e : k = q; (rw [if_pos e, if_pos e, HSS.out, HXX.out]); (rw [if_neg e, if_neg e]))).drew), Lib.hid ((HA.out.far (p := ⟨N, q, none⟩) hne _).drew), Lib.hid fun p hp => by
                  by_cases e : p = j * 9 + q
                  · rw [e, HXX.out]; exact ⟨x0, x1⟩
                  · exact HAM.out p (by omega)⟩
                case measure => simp [intOf]; omega
            · have HER : Hid (Ad.serr n f = 1) := Lib.hid (Ad.serr_bad hm1 (p := j * 9 + q) (by omega) (by rw [HXX.out]; exact ham))
              have hwR := HS.out.wR
              have hx : x < 0 ∨ 17592186044416 < x := by unfold Ad.amt at ham; omega
              rcases hx with hx | hx
              all_goals
                go_wp2_with (first | (refine wpList_store_has ?_ 28 (.tmp 2) (.tmp 43) ?_ R ?_ z9 ?_ _ _ HS.out.hr HAI.out ?_ ?_ ?_; rfl; rfl; rfl; rfl; rfl; rfl; intro w7 hh7 hl7))
                have r0 := hh7.cell
                refine bodyPost_ret (v := .tuple #[.agg z9, .int .i64 1]) (by simp [results, Try.results16, go_sem, r0]) rfl ⟨by rw [sum_bad HER.out (by omega)], leaves_below HS.out.bl hl7 hwR⟩
          · have hq9' : q = 9 := by omega
            subst hq9'
            clear hq9
            go_wp2_with fail
            go_roundw
            case rel => exact ⟨j + 1, by omega, by go_num, HS, Lib.hid (HRW.out.congr (fun k hk => by rw [Ad.fpart_nine hk, Ad.fpart_zero])), Lib.hid fun p hp => HAM.out p (by omega)⟩
            case measure => simp [intOf]; omega
      · have hjn : n = j := by omega
        subst hjn
        clear hlt hj
        have hdd : decide ((n : Int) < n) = false := by rw [decide_eq_false_iff_not]; omega
        replace HRW : Hid (Row wr N 9 3 (fun k => .int .i64 (Ad.tot f k n))) := Lib.hid (HRW.out.congr (fun k hk => by rw [Ad.fpart_zero]))
        go_wp2_with fail
        clear hdd
        go_loopw [8] (fun i wx => wx = wr ∧ ∃ k : Nat, k ≤ 9 ∧ i = .int .i64 k ∧ Hid (∀ p, p < k → Ad.tot f p n ≤ 17592186044416)) (fun i _ => 9 - (intOf i).toNat)
        case atStart => exact ⟨rfl, 0, by omega, rfl, Lib.hid fun p hp => by omega⟩
        case round =>
          obtain ⟨rfl, k, hk, rfl, HK⟩ := hrel
          by_cases hk9 : k < 9
          · have hr0 := HRW.out.cell k hk9
            obtain ⟨s, hs⟩ : ∃ s, Ad.tot f k n = s := ⟨_, rfl⟩
            rw [hs] at hr0
            have hk0 : (0 : Int) ≤ k := by omega
            have hk1 : (k : Int) < 9 := by omega
            have HSS := Lib.hid hs
            have hwR := HS.out.wR
            clear hs
            by_cases hbig : 17592186044416 < s
            · have HER : Hid (Ad.serr n f = 3) := Lib.hid (Ad.serr_over hm1 HAM.out hk9 (by rw [HSS.out]; exact hbig))
              go_wp2_with (first | (refine wpList_store_has ?_ 28 (.tmp 2) (.tmp 67) ?_ R ?_ z9 ?_ _ _ HS.out.hr HAI.out ?_ ?_ ?_; rfl; rfl; rfl; rfl; rfl; rfl; intro w7 hh7 hl7))
              have r0 := hh7.cell
              refine bodyPost_ret (v := .tuple #[.agg z9, .int .i64 3]) (by simp [results, Try.results16, go_sem, r0]) rfl ⟨by rw [sum_bad HER.out (by omega)], leaves_below HS.out.bl hl7 hwR⟩
            · go_wp2_with fail
              go_roundw
              case rel => exact ⟨by trivial, k + 1, by omega, by go_num, Lib.hid fun p hp => by
                by_cases e : p = k
                · rw [e, HSS.out]; omega
                · exact HK.out p (by omega)⟩
              case measure => simp [intOf]; omega
          · have hk9' : k = 9 := by omega
            subst hk9'
            clear hk9 hk
            have HER : Hid (Ad.serr n f = 0) := Lib.hid (Ad.serr_ok hm1 HAM.out HK.out)
            have hwR := HS.out.wR
            have hdd : decide (((9 : Nat) : Int) < 9) = false := by decide
            have c0 := HRW.out.cell 0 (by omega)
            have c1 := HRW.out.cell 1 (by omega)
            have c2 := HRW.out.cell 2 (by omega)
            have c3 := HRW.out.cell 3 (by omega)
            have c4 := HRW.out.cell 4 (by omega)
            have c5 := HRW.out.cell 5 (by omega)
            have c6 := HRW.out.cell 6 (by omega)
            have c7 := HRW.out.cell 7 (by omega)
            have c8 := HRW.out.cell 8 (by omega)
            obtain ⟨t0, h0⟩ : ∃ t, Ad.tot f 0 n = t := ⟨_, rfl⟩
            rw [h0] at c0
            obtain ⟨t1, h1⟩ : ∃ t, Ad.tot f 1 n = t := ⟨_, rfl⟩
            rw [h1] at c1
            obtain ⟨t2, h2⟩ : ∃ t, Ad.tot f 2 n = t := ⟨_, rfl⟩
            rw [h2] at c2
            obtain ⟨t3, h3⟩ : ∃ t, Ad.tot f 3 n = t := ⟨_, rfl⟩
            rw [h3] at c3
            obtain ⟨t4, h4⟩ : ∃ t, Ad.tot f 4 n = t := ⟨_, rfl⟩
            rw [h4] at c4
            obtain ⟨t5, h5⟩ : ∃ t, Ad.tot f 5 n = t := ⟨_, rfl⟩
            rw [h5] at c5
            obtain ⟨t6, h6⟩ : ∃ t, Ad.tot f 6 n = t := ⟨_, rfl⟩
            rw [h6] at c6
            obtain ⟨t7, h7⟩ : ∃ t, Ad.tot f 7 n = t := ⟨_, rfl⟩
            rw [h7] at c7
            obtain ⟨t8, h8⟩ : ∃ t, Ad.tot f 8 n = t := ⟨_, rfl⟩
            rw [h8] at c8
            have HE : Hid (Value.tuple #[.agg (cells9 (Ad.sres n f)), .int .i64 (Ad.serr n f)] = .tuple #[.agg #[.int .i64 t0, .int .i64 t1, .int .i64 t2, .int .i64 t3, .int .i64 t4, .int .i64 t5, .int .i64 t6, .int .i64 t7, .int .i64 t8], .int .i64 0]) := Lib.hid (by simp only [cells9, Ad.sres_ok HER.out, HER.out, h0, h1, h2, h3, h4, h5, h6, h7, h8])
            obtain ⟨r0, r1, r2⟩ := HS.out.hr.rules
            have hRN := HS.out.RN
            have hne1 : N ≠ R := by omega
            have hne2 : R ≠ N := by omega
            clear h0 h1 h2 h3 h4 h5 h6 h7 h8
            go_upto_region 19 with (fail)
            go_region_held3 (fun w' => w'.cell? ⟨N, 0, none⟩ = some (.int .i64 t0) ∧ w'.cell? ⟨N, 1, none⟩ = some (.int .i64 t1) ∧ w'.cell? ⟨N, 2, none⟩ = some (.int .i64 t2) ∧ w'.cell? ⟨N, 3, none⟩ = some (.int .i64 t3) ∧ w'.cell? ⟨N, 4, none⟩ = some (.int .i64 t4) ∧ w'.cell? ⟨N, 5, none⟩ = some (.int .i64 t5) ∧ w'.cell? ⟨N, 6, none⟩ = some (.int .i64 t6) ∧ w'.cell? ⟨N, 7, none⟩ = some (.int .i64 t7) ∧ w'.cell? ⟨N, 8, none⟩ = some (.int .i64 t8)) (go_keep) (fail)
            all_goals
              go_wp2_with fail
              have hh := (((((((((HS.out.hr.put 0 (.int .i64 t0)).put 1 (.int .i64 t1)).put 2 (.int .i64 t2)).put 3 (.int .i64 t3)).put 4 (.int .i64 t4)).put 5 (.int .i64 t5)).put 6 (.int .i64 t6)).put 7 (.int .i64 t7)).put 8 (.int .i64 t8)).drew
              simp only [z9, List.setIfInBounds_toArray, List.set_cons_succ, List.set_cons_zero] at hh
              have rr := hh.cell
              refine bodyPost_ret (v := .tuple #[.agg #[.int .i64 t0, .int .i64 t1, .int .i64 t2, .int .i64 t3, .int .i64 t4, .int .i64 t5, .int .i64 t6, .int .i64 t7, .int .i64 t8], .int .i64 0]) (by simp [results, Try.results16, go_sem, rr]) rfl ⟨by rw [HE.out], Below.drew ?_⟩
              repeat (first | (with_reducible exact HS.out.bl) | (with_reducible refine Below.setCell ?_ (by simp only; omega) _))
end Go.Proofs.Ytageedgbkaknnaa
