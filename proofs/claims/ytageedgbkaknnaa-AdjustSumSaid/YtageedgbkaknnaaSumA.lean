/- adjust.Sum: what it returns, for every list. -/
import Derived.Test.YtageedgbkaknnaaSumM
import Derived.Test.YtageedgbkaknnaaWhole
import Derived.Test.YtageedgbkaknnaaRow
import Derived.Test.YtageedgbkaknnaaSame
import Derived.Deep.RegionHeld3
import Derived.Deep.MidRow
import Derived.Deep.DeepCutAuto
import Derived.Deep.CutBlock
import Derived.LoopTactic
namespace Go.Proofs.Ytageedgbkaknnaa
open Go.RowKit
set_option linter.unusedVariables false

/-- pointers to the nine fields of a struct -/
def nine (b : Nat) : Array Value := #[.pointer (some ⟨b, 0, none⟩), .pointer (some ⟨b, 1, none⟩), .pointer (some ⟨b, 2, none⟩), .pointer (some ⟨b, 3, none⟩), .pointer (some ⟨b, 4, none⟩), .pointer (some ⟨b, 5, none⟩), .pointer (some ⟨b, 6, none⟩), .pointer (some ⟨b, 7, none⟩), .pointer (some ⟨b, 8, none⟩)]

set_option maxHeartbeats 1000000 in
theorem fields_any (b : Nat) (w : World) : Calls Try.prog 33 #[.pointer (some ⟨b, 0, none⟩)] w fun e w' => e = .returned (.agg (nine b)) ∧ Below w.heap.size w w' := by
  go_enter Try.func33, Try.ntmps33
  go_wp2_with fail
  go_region
  all_goals
    go_wp2_with fail
    refine bodyPost_ret (v := .agg (nine b)) (by simp [results, Try.results33, go_sem, nine]) rfl ⟨rfl, Below.drew ((Below.refl _ _).alloc (Nat.le_refl _) _)⟩

/-- nine numbers as the cells of a struct -/
def cells9 (r : Nat → Int) : Array Value := #[.int .i64 (r 0), .int .i64 (r 1), .int .i64 (r 2), .int .i64 (r 3), .int .i64 (r 4), .int .i64 (r 5), .int .i64 (r 6), .int .i64 (r 7), .int .i64 (r 8)]
/-- what Sum returns -/
def SumPost (n : Nat) (f : Nat → Int) (w : World) (e : Ending) (w' : World) : Prop := e = .returned (.tuple #[.agg (cells9 (Ad.sres n f)), .int .i64 (Ad.serr n f)]) ∧ Below w.heap.size w w'
theorem sum_bad {n : Nat} {f : Nat → Int} {er : Int} (h : Ad.serr n f = er) (h0 : er ≠ 0) : Value.tuple #[.agg #[.int .i64 0, .int .i64 0, .int .i64 0, .int .i64 0, .int .i64 0, .int .i64 0, .int .i64 0, .int .i64 0, .int .i64 0], .int .i64 er] = .tuple #[.agg (cells9 (Ad.sres n f)), .int .i64 (Ad.serr n f)] := by
  have h1 := Ad.sres_bad (f := f) (n := n) (by rw [h]; exact h0)
  simp only [cells9, h1, h]

/-- a struct of nine zeros -/
abbrev z9 : Array Value := #[.int .i64 0, .int .i64 0, .int .i64 0, .int .i64 0, .int .i64 0, .int .i64 0, .int .i64 0, .int .i64 0, .int .i64 0]
/-- what stands while the sums are made: R the result, S the sums, T the pointers to them -/
structure SumSt (w : World) (R S T : Nat) (A : Option Addr) (n : Nat) (f : Nat → Int) (W : World) : Prop where
  hr : Has W R z9 28
  ht : Has W T (nine S) 61
  fl : Nums W R A (n * 9) f
  bl : Below w.heap.size w W
  RS : R < S
  ST : S < T
  wR : w.heap.size ≤ R
section
variable {w W W' : World} {R S T n : Nat} {A : Option Addr} {f : Nat → Int}
theorem SumSt.lt (h : SumSt w R S T A n f W) : T < W.heap.size := h.ht.lt
theorem SumSt.next (h : SumSt w R S T A n f W) (hb : Below W.heap.size W W') : SumSt w R S T A n f W' :=
  have h1 := h.RS; have h2 := h.ST; have h3 := h.lt
  ⟨h.hr.below hb (by omega), h.ht.below hb h3, h.fl.below (hb.mono (by omega)), h.bl.trans (hb.mono h.bl.size), h.RS, h.ST, h.wR⟩
theorem SumSt.put (h : SumSt w R S T A n f W) (k : Nat) (u : Value) : SumSt w R S T A n f (W.setCell ⟨S, k, none⟩ u) :=
  have h1 := h.RS; have h2 := h.ST; have h3 := h.wR
  ⟨h.hr.far (by simp only; omega) u, h.ht.far (by simp only; omega) u, Cells.setCell h.fl (by simp only; omega) u, h.bl.setCell (by simp only; omega) u, h.RS, h.ST, h.wR⟩
end

theorem row_zero {w : World} {S : Nat} {f : Nat → Int} (h : Has w S z9 28) : Row w S 9 28 (fun k => .int .i64 (Ad.fpart f 0 0 k)) :=
  ⟨z9, h, rfl, fun j hj => by
    have e : Ad.fpart f 0 0 j = 0 := Ad.fpart_zero
    show z9[j]? = some (.int .i64 (Ad.fpart f 0 0 j))
    rw [e]
    match j, hj with
    | 0, _ | 1, _ | 2, _ | 3, _ | 4, _ | 5, _ | 6, _ | 7, _ | 8, _ => rfl
    | j + 9, h => omega⟩
/-- the nine numbers of a row -/
def row9 (f : Nat → Int) (j : Nat) : List Value := [.int .i64 (f (j * 9 + 0)), .int .i64 (f (j * 9 + 1)), .int .i64 (f (j * 9 + 2)), .int .i64 (f (j * 9 + 3)), .int .i64 (f (j * 9 + 4)), .int .i64 (f (j * 9 + 5)), .int .i64 (f (j * 9 + 6)), .int .i64 (f (j * 9 + 7)), .int .i64 (f (j * 9 + 8))]
theorem row9_get {f : Nat → Int} {j k : Nat} (hk : k < 9) : (row9 f j)[k]? = some (.int .i64 (f (j * 9 + k))) := by
  match k, hk with
  | 0, _ | 1, _ | 2, _ | 3, _ | 4, _ | 5, _ | 6, _ | 7, _ | 8, _ => rfl
  | k + 9, h => omega
theorem nine_get {b k : Nat} (hk : k < 9) : (nine b)[k]? = some (.pointer (some ⟨b, k, none⟩)) := by
  match k, hk with
  | 0, _ | 1, _ | 2, _ | 3, _ | 4, _ | 5, _ | 6, _ | 7, _ | 8, _ => rfl
  | k + 9, h => omega
theorem index_nine {a q : Nat} (hq : q < 9) (W : World) : (Instr.index 61 (.agg (nine a)) (.int .i64 (q : Int))).run Try.prog W = .ok (.pointer (some ⟨a, q, none⟩)) W := by
  have u := Try.underlying61
  have a3 := Try.isAgg48
  have z3 := Try.sizeOf48
  have h : q = 0 ∨ q = 1 ∨ q = 2 ∨ q = 3 ∨ q = 4 ∨ q = 5 ∨ q = 6 ∨ q = 7 ∨ q = 8 := by omega
  unfold nine Instr.index
  simp only [Sem.run_bind, run_underlying Try.underlying61, Result.andThen_ok]
  rcases h with rfl | rfl | rfl | rfl | rfl | rfl | rfl | rfl | rfl
  all_goals go_simp
theorem Nums.nine {w : World} {B n j : Nat} {A : Option Addr} {f : Nat → Int} (h : Nums w B A (n * 9) f) (hj : j < n) : ∃ b o, A = some ⟨b, o, none⟩ ∧ b < B ∧ w.rangeAt b (o + j * 9) (row9 f j) := by
  obtain ⟨b, o, e, hb, hc⟩ := Cells.plain h (by omega)
  refine ⟨b, o, e, hb, fun k v hk => ?_⟩
  have h9 : k < 9 := by
    rcases Nat.lt_or_ge k 9 with h | h
    · exact h
    · rw [List.getElem?_eq_none (by simp [row9]; omega)] at hk; cases hk
  rw [row9_get h9] at hk
  injection hk with hk
  subst hk
  rw [show o + j * 9 + k = o + (j * 9 + k) by omega]
  exact hc (j * 9 + k) (by omega)

theorem row_has9 {w : World} {S : Nat} {t : TypeId} {g : Nat → Int} (h : Row w S 9 t (fun k => .int .i64 (g k))) : Has w S (cells9 g) t := by
  obtain ⟨cur, hh, hs, hc⟩ := h
  have e : cur = cells9 g := by
    apply Array.ext'
    apply List.ext_getElem?
    intro k
    rw [Array.getElem?_toList]
    by_cases hk : k < 9
    · rw [hc k hk]
      match k, hk with
      | 0, _ | 1, _ | 2, _ | 3, _ | 4, _ | 5, _ | 6, _ | 7, _ | 8, _ => rfl
      | k + 9, h => omega
    · rw [Array.getElem?_eq_none (by omega), List.getElem?_eq_none (by simp [cells9]; omega)]
  rw [← e]
  exact hh
theorem awithin_any (n m : Int) (w : World) : Calls Try.prog 34 #[.int .i64 n, .int .i64 m] w fun e w' => e = .returned (.bool (decide (0 ≤ n ∧ n ≤ m))) ∧ w = w' := by
  by_cases h0 : 0 ≤ n
  · by_cases h1 : n ≤ m
    · go_enter Try.func34, Try.ntmps34
      go_wp2
      go_ret
      exact ⟨by simp [h0, h1], rfl⟩
    · go_enter Try.func34, Try.ntmps34
      go_wp2
      go_ret
      exact ⟨by simp; omega, rfl⟩
  · go_enter Try.func34, Try.ntmps34
    go_wp2
    go_ret
    exact ⟨by simp; omega, rfl⟩
theorem leaves_below {w W W' : World} {R : Nat} (h : Below w.heap.size w W) (hl : Leaves (fun k => k = R) W W') (hR : w.heap.size ≤ R) : Below w.heap.size w W' :=
  h.trans (hl.below (fun k hk => by omega) h.size)

set_option maxRecDepth 100000 in
theorem adj_info : (Try.prog.info? 28).map (·.size) = some 9 := by kernel_rfl
set_option maxRecDepth 100000 in
theorem ptrs_info : (Try.prog.info? 61).map (·.size) = some 9 := by kernel_rfl

set_option maxRecDepth 100000 in
set_option maxHeartbeats 4000000 in
theorem asum_any (A : Option Addr) (n c : Nat) (f : Nat → Int) (w : World) (hn : n ≤ 9223372036854775807) (h : Nums w w.heap.size A (n * 9) f) : Calls Try.prog 15 #[.slice A n c] w (SumPost n f w) := by
  have HF := Lib.hid h
  have HPI := Lib.hid ptrs_info
  have HAI := Lib.hid adj_info
  clear h
  by_cases hm : 64 < n
  · have hm' : (64 : Int) < n := by omega
    have he := sum_bad (f := f) (Ad.serr_many hm) (by omega)
    have HE := Lib.hid he
    clear he
    go_enter Try.func15, Try.ntmps15
    go_wp2_with fail
    refine bodyPost_ret (v := .tuple #[.agg #[.int .i64 0, .int .i64 0, .int .i64 0, .int .i64 0, .int .i64 0, .int .i64 0, .int .i64 0, .int .i64 0, .int .i64 0], .int .i64 4]) (by simp [results, Try.results15, go_sem]) rfl ⟨HE.out ▸ rfl, (Below.refl _ _).alloc (Nat.le_refl _) _⟩
  · have hm1 : n ≤ 64 := by omega
    have hm' : (n : Int) ≤ 64 := by omega
    clear hm
    go_enter Try.func15, Try.ntmps15
    go_wp2_with fail
    refine (fields_any _ _).mono ?_
    rintro e w1 ⟨rfl, hb⟩
    have HR : Hid (Has w1 w.heap.size z9 28) := Lib.hid (((Has.new w z9 _).alloc (.cells z9 28)).below hb (by simp; omega))
    have HSS : Hid (Has w1 (w.heap.size + 1) z9 28) := Lib.hid ((Has.new' (w.alloc (.cells z9 28)) (w.heap.size + 1) z9 _ (by simp)).below hb (by simp))
    have hb2 : Below w.heap.size w w1 := (((Below.refl w.heap.size w).alloc (Nat.le_refl _) _).alloc (by simp) _).trans (hb.mono (by simp; omega))
    have hS2 : w.heap.size + 1 + 1 ≤ w1.heap.size := by have := hb.size; simpa using this
    have HB := Lib.hid hb2
    replace HF : Hid (Nums w1 w.heap.size A (n * 9) f) := Lib.hid (HF.out.below hb2)
    clear hb hb2
    obtain ⟨R, hR⟩ : ∃ R, w.heap.size = R := ⟨_, rfl⟩
    obtain ⟨S, hS⟩ : ∃ S, R + 1 = S := ⟨_, rfl⟩
    have HWR : Hid (w.heap.size = R) := Lib.hid hR
    rw [hR] at HR HSS HF hS2 ⊢
    rw [hS] at HSS hS2 ⊢
    have hRS : R < S := by omega
    clear hR hS
    go_upto_region 5 with ((refine wpList_store_has ?_ 61 (.tmp 5) (.tmp 16) ?_ w1.heap.size ?_ (nine S) ?_ _ _ (Has.new w1 _ _) HPI.out ?_ ?_ ?_; rfl; rfl; rfl; rfl; rfl; rfl; intro w3 hh3 hl3))
    obtain ⟨T, hT⟩ : ∃ T, w1.heap.size = T := ⟨_, rfl⟩
    have hb3 : Below w1.heap.size w1 w3 := ((Below.refl _ _).alloc (Nat.le_refl _) _).trans (hl3.below (fun k hk => by omega) (by simp))
    rw [hT] at hb3 hh3 hS2 ⊢
    have HS : Hid (SumSt w R S T A n f w3) := Lib.hid ⟨HR.out.below hb3 (by omega), hh3, HF.out.below (hb3.mono (by omega)), HB.out.trans (hb3.mono (by have := HWR.out; omega)), hRS, by omega, by have := HWR.out; omega⟩
    have HRW : Hid (Row w3 S 9 28 (fun k => .int .i64 (Ad.fpart f 0 0 k))) := Lib.hid (row_zero (HSS.out.below hb3 (by omega)))
    clear hT hb3 hh3 hl3 HR HSS HF HB hS2
    go_wp2_with fail
    go_loopw [19] (fun i wr => ∃ j : Nat, j ≤ n ∧ i = .int .i64 j ∧ Hid (SumSt w R S T A n f wr) ∧ Hid (Row wr S 9 28 (fun k => .int .i64 (Ad.fpart f j 0 k))) ∧ Hid (∀ p, p < j * 9 → Ad.amt (f p))) (fun i _ => n - (intOf i).toNat)
    case atStart => exact ⟨0, Nat.zero_le _, rfl, HS, HRW, Lib.hid fun p hp => by omega⟩
    case round =>
      clear HS HRW
      obtain ⟨j, hj, rfl, HS, HRW, HAM⟩ := hrel
      by_cases hlt : j < n
      · obtain ⟨b, o, rfl, hbR, hcell⟩ := Nums.nine HS.out.fl hlt
        have HCE := Lib.hid hcell
        have hj0 : (0 : Int) ≤ j := by omega
        have hj1 : (j : Int) < n := by omega
        clear hcell
        go_upto_region 8 with (first | (refine wpList_load_mid ?_ 28 (.tmp 21) ?_ b (o + j * 9) ?_ _ _ HCE.out Try.underlying28 ?_ HAI.out ?_; rfl; rfl; rfl; rfl) | (refine wpList_store_has ?_ 28 (.tmp 7) (.tmp 22) ?_ wr.heap.size ?_ (row9 f j).toArray ?_ _ _ (Has.new wr _ _) HAI.out ?_ ?_ ?_; rfl; rfl; rfl; rfl; rfl; rfl; intro w4 hh4 hl4))
        have hb4 : Below wr.heap.size wr w4 := ((Below.refl _ _).alloc (Nat.le_refl _) _).trans (hl4.below (fun k hk => by omega) (by simp))
        have hsz := HS.out.lt
        have hST := HS.out.ST
        obtain ⟨a, ha⟩ : ∃ a, wr.heap.size = a := ⟨_, rfl⟩
        replace HS := Lib.hid (HS.out.next hb4)
        replace HRW := Lib.hid (HRW.out.below hb4 (by omega))
        have HA := Lib.hid hh4
        rw [ha] at HA hsz ⊢
        clear hb4 hh4 hl4 ha HCE
        go_wp2_with fail
        refine (fields_any a _).mono ?_
        rintro e w5 ⟨rfl, hb⟩
        replace HA := Lib.hid (HA.out.below hb HA.out.lt)
        replace HRW := Lib.hid (HRW.out.below hb HRW.out.lt)
        replace HS := Lib.hid (HS.out.next hb)
        clear hb
        try simp only
        go_wp2_with fail
        go_loopw [24] (fun i wr => ∃ q : Nat, q ≤ 9 ∧ i = .int .i64 q ∧ Hid (SumSt w R S T (some ⟨b, o, none⟩) n f wr) ∧ Hid (Row wr S 9 28 (fun k => .int .i64 (Ad.fpart f j q k))) ∧ Hid (Has wr a (row9 f j).toArray 28) ∧ Hid (∀ p, p < j * 9 + q → Ad.amt (f p))) (fun i _ => 9 - (intOf i).toNat)
        case atStart => exact ⟨0, Nat.zero_le _, rfl, HS, HRW, HA, HAM⟩
        case round =>
          clear HS HRW HA HAM
          obtain ⟨q, hq, rfl, HS, HRW, HA, HAM⟩ := hrel
          by_cases hq9 : q < 9
          · have hr0 := HRW.out.cell q hq9
            have hrf := HRW.out.free q
            have ha0 : wr.cell? ⟨a, q, none⟩ = some (.int .i64 (f (j * 9 + q))) := by rw [HA.out.cell]; simpa using row9_get hq9
            have ht0 : wr.cell? ⟨T, q, none⟩ = some (.pointer (some ⟨S, q, none⟩)) := by rw [HS.out.ht.cell]; exact nine_get hq9
            obtain ⟨x, hx⟩ : ∃ x, f (j * 9 + q) = x := ⟨_, rfl⟩
            obtain ⟨s, hs⟩ : ∃ x, Ad.fpart f j q q = x := ⟨_, rfl⟩
            rw [hx] at ha0
            rw [hs] at hr0
            have hn9 : (nine a)[q]? = some (.pointer (some ⟨a, q, none⟩)) := nine_get hq9
            have hq0 : (0 : Int) ≤ q := by omega
            have hq1 : (q : Int) < 9 := by omega
            have hsb := Ad.fpart_bound HAM.out (by omega) hq9
            rw [hs] at hsb
            obtain ⟨s0, s1⟩ := hsb
            have HXX := Lib.hid hx
            have HSS := Lib.hid hs
            clear hx hs
            have hix := index_nine (a := a) hq9 wr
            have hne : a ≠ S := by have := HS.out.ST; omega
            by_cases ham : Ad.amt x
            · have hd : decide (0 ≤ x ∧ x ≤ 17592186044416) = true := decide_eq_true ham
              obtain ⟨x0, x1⟩ := ham
              go_wp2_with (first | (go_at_call 34; refine (awithin_any _ _ _).mono ?_; rintro e w' ⟨rfl, rfl⟩))
              go_region
              all_goals
                go_wp2_with fail
                go_roundw
                case rel => exact ⟨q + 1, by omega, by go_num, Lib.hid ((HS.out.put q _).next (Below.drew (Below.refl _ _))), Lib.hid (((HRW.out.put q (.int .i64 (s + x))).congr (fun k hk => by rw [Ad.fpart_step]; by_cases e : k = q; (rw [if_pos e, if_pos e, HSS.out, HXX.out]); (rw [if_neg e, if_neg e]))).drew), Lib.hid ((HA.out.far (p := ⟨S, q, none⟩) hne _).drew), Lib.hid fun p hp => by
                  by_cases e : p = j * 9 + q
                  · rw [e, HXX.out]; exact ⟨x0, x1⟩
                  · exact HAM.out p (by omega)⟩
                case measure => simp [intOf]; omega
            · have hd : decide (0 ≤ x ∧ x ≤ 17592186044416) = false := decide_eq_false ham
              have HER : Hid (Ad.serr n f = 1) := Lib.hid (Ad.serr_bad hm1 (p := j * 9 + q) (by omega) (by rw [HXX.out]; exact ham))
              have hwR := HS.out.wR
              go_wp2_with (first | (go_at_call 34; refine (awithin_any _ _ _).mono ?_; rintro e w' ⟨rfl, rfl⟩) | (refine wpList_store_has ?_ 28 (.tmp 2) (.tmp 33) ?_ R ?_ z9 ?_ _ _ HS.out.hr HAI.out ?_ ?_ ?_; rfl; rfl; rfl; rfl; rfl; rfl; intro w7 hh7 hl7))
              have r0 := hh7.cell
              refine bodyPost_ret (v := .tuple #[.agg z9, .int .i64 1]) (by simp [results, Try.results15, go_sem, r0]) rfl ⟨by rw [sum_bad HER.out (by omega)], leaves_below HS.out.bl hl7 hwR⟩
          · have hq9' : q = 9 := by omega
            subst hq9'
            clear hq9
            go_wp2_with fail
            go_roundw
            case rel => exact ⟨j + 1, by omega, by go_num, HS, Lib.hid (HRW.out.congr (fun k hk => by rw [Ad.fpart_nine hk, Ad.fpart_zero])), Lib.hid fun p hp => HAM.out p (by omega)⟩
            case measure => simp [intOf]; omega
      · have hjn : n = j := by omega
        subst hjn
        clear hlt hj
        have hdd : decide ((n : Int) < n) = false := by rw [decide_eq_false_iff_not]; omega
        replace HRW : Hid (Row wr S 9 28 (fun k => .int .i64 (Ad.tot f k n))) := Lib.hid (HRW.out.congr (fun k hk => by rw [Ad.fpart_zero]))
        go_wp2_with (first | (refine wpList_load_has ?_ 61 (.tmp 5) ?_ T ?_ _ _ _ HS.out.ht Try.underlying61 ?_ HPI.out ?_; rfl; rfl; rfl; rfl))
        clear hdd
        go_loopw [47] (fun i wx => wx = wr ∧ ∃ k : Nat, k ≤ 9 ∧ i = .int .i64 k ∧ Hid (∀ p, p < k → Ad.tot f p n ≤ 17592186044416)) (fun i _ => 9 - (intOf i).toNat)
        case atStart => exact ⟨rfl, 0, by omega, rfl, Lib.hid fun p hp => by omega⟩
        case round =>
          obtain ⟨rfl, k, hk, rfl, HK⟩ := hrel
          by_cases hk9 : k < 9
          · have hr0 := HRW.out.cell k hk9
            have hix := index_nine (a := S) hk9 wr
            obtain ⟨s, hs⟩ : ∃ s, Ad.tot f k n = s := ⟨_, rfl⟩
            rw [hs] at hr0
            have hk0 : (0 : Int) ≤ k := by omega
            have hk1 : (k : Int) < 9 := by omega
            have HSS := Lib.hid hs
            have hwR := HS.out.wR
            clear hs
            by_cases hbig : 17592186044416 < s
            · have HER : Hid (Ad.serr n f = 3) := Lib.hid (Ad.serr_over hm1 HAM.out hk9 (by rw [HSS.out]; exact hbig))
              go_wp2_with (first | (refine wpList_store_has ?_ 28 (.tmp 2) (.tmp 54) ?_ R ?_ z9 ?_ _ _ HS.out.hr HAI.out ?_ ?_ ?_; rfl; rfl; rfl; rfl; rfl; rfl; intro w7 hh7 hl7))
              have r0 := hh7.cell
              refine bodyPost_ret (v := .tuple #[.agg z9, .int .i64 3]) (by simp [results, Try.results15, go_sem, r0]) rfl ⟨by rw [sum_bad HER.out (by omega)], leaves_below HS.out.bl hl7 hwR⟩
            · go_wp2_with fail
              go_roundw
              case rel => exact ⟨by trivial, k + 1, by omega, by go_num, Lib.hid fun p hp => by
                by_cases e : p = k
                · rw [e, HSS.out]; omega
                · exact HK.out p (by omega)⟩
              case measure => simp [intOf]; omega
          · have hk9' : k = 9 := by omega
            subst hk9'
            clear hk9 hk
            have HER : Hid (Ad.serr n f = 0) := Lib.hid (Ad.serr_ok hm1 HAM.out HK.out)
            have hwR := HS.out.wR
            have hdd : decide (((9 : Nat) : Int) < 9) = false := by decide
            go_wp2_with (first | (refine wpList_load_has ?_ 28 (.tmp 4) ?_ S ?_ _ _ _ (row_has9 HRW.out) Try.underlying28 ?_ HAI.out ?_; rfl; rfl; rfl; rfl) | (refine wpList_store_has ?_ 28 (.tmp 2) (.tmp 56) ?_ R ?_ (cells9 (fun k => Ad.tot f k n)) ?_ _ _ HS.out.hr HAI.out ?_ ?_ ?_; rfl; rfl; rfl; rfl; rfl; rfl; intro w7 hh7 hl7))
            have r0 := hh7.cell
            refine bodyPost_ret (v := .tuple #[.agg (cells9 (fun k => Ad.tot f k n)), .int .i64 0]) (by simp [results, Try.results15, go_sem, r0, cells9]) rfl ⟨by simp only [cells9, Ad.sres_ok HER.out, HER.out], leaves_below HS.out.bl hl7 hwR⟩
end Go.Proofs.Ytageedgbkaknnaa
