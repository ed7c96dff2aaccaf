/- contract.Validate: the first fault of a treaty; a treaty that came in. -/
import Derived.Test.YtbeikfopneeodaaGreatMt07
namespace Go.Proofs.YtbeikfopneeodaaGreat
open Go.RowKit
set_option linter.unusedVariables false

theorem contains_any (A : Option Addr) (n c : Nat) (f : Nat → Int) (x : Int) (w : World) (hn : n ≤ 9223372036854775807) (h : Nums w w.heap.size A n f) :
    Calls Tryz.prog 85 #[.slice A n c, .int .i64 x] w (BoolPost (Ty.hasB f n x) w) := by
  by_cases hz : n = 0
  · subst hz
    refine (Tryz.slices_Contains_int_empty A c x w).mono ?_
    rintro e w' ⟨rfl, rfl⟩
    refine ⟨ret_bool ?_, Below.refl _ _⟩
    unfold Ty.hasB
    exact (decide_eq_false fun ⟨i, hi, _⟩ => absurd hi (by omega)).symm
  · obtain ⟨b, o, rfl, hb, hc⟩ := Cells.plain h (by omega)
    refine (Tryz.slices_Contains_int b o n c ((List.range n).map f) x w (by simp) hn (fun j hj => by
      have hj' : j < n := by simpa using hj
      rw [hc j hj']
      simp [hj'])).mono ?_
    rintro e w' ⟨rfl, rfl⟩
    refine ⟨ret_bool ?_, Below.refl _ _⟩
    unfold Ty.hasB
    rw [Bool.eq_iff_iff, decide_eq_true_iff, List.contains_iff_mem, List.take_of_length_le (by simp)]
    constructor
    · intro hm
      obtain ⟨i, hi, e⟩ := List.mem_map.1 hm
      exact ⟨i, List.mem_range.1 hi, e⟩
    · rintro ⟨i, hi, e⟩
      exact List.mem_map.2 ⟨i, List.mem_range.2 hi, e⟩

theorem firstErr_next {a R : Int} {l : List Int} (h : firstErr (a :: l) = R) (ha : a = 0) : firstErr l = R := by rw [ha, firstErr_go] at h; exact h
/-- the lists of a treaty in a later world -/
theorem Ty.In.later {t : Ty} {w w' : World} {G : Nat} (h : t.In w G) (hb : Below G w w') (hs : G ≤ w'.heap.size) : t.In w' w'.heap.size := (h.below hb).mono hs

set_option maxRecDepth 100000 in
set_option maxHeartbeats 8000000 in
theorem validate_any (t : Ty) (w : World) (h : t.In w w.heap.size) : Calls Tryz.prog 57 #[.agg t.cells] w (IntPost t.err w) := by
  obtain ⟨R, hR⟩ : ∃ R, t.err = R := ⟨_, rfl⟩
  obtain ⟨p3, hp3⟩ : ∃ r, Ty.perP t.pf t.pt = r := ⟨_, rfl⟩
  obtain ⟨e4, he4⟩ : ∃ r, Ty.asc 0 15 t.npe t.fpe = r := ⟨_, rfl⟩
  obtain ⟨e5, he5⟩ : ∃ r, Ty.asc 0 15 t.nar t.far = r := ⟨_, rfl⟩
  obtain ⟨e6, he6⟩ : ∃ r, t.ferr = r := ⟨_, rfl⟩
  obtain ⟨e8, he8⟩ : ∃ r, scan (Ty.rc t.fre) t.nre 0 = r := ⟨_, rfl⟩
  obtain ⟨e10, he10⟩ : ∃ r, Ty.asc 1 1048576 t.nin t.fin = r := ⟨_, rfl⟩
  obtain ⟨p11, hp11⟩ : ∃ r, Ty.hasB t.fin t.nin t.id = r := ⟨_, rfl⟩
  obtain ⟨e12, he12⟩ : ∃ r, Ty.perr t.npa t.fpa t.gpa = r := ⟨_, rfl⟩
  have HF : Hid (firstErr [if 1 ≤ t.id ∧ t.id ≤ 1048576 then 0 else 1, if 1 ≤ t.kind ∧ t.kind ≤ 6 then 0 else 11, if p3 = true then 0 else 12, e4, e5, e6, if 8 < t.nre then 4 else 0, e8, if 12 < t.nin then 4 else 0, e10, if p11 = true then 10 else 0, e12] = R) :=
    Lib.hid (by rw [← hp3, ← he4, ← he5, ← he6, ← he8, ← he10, ← hp11, ← he12, ← hR]; rfl)
  have HS8 : Hid (scan (Ty.rc t.fre) (t.nre - 0) 0 = e8) := Lib.hid he8
  have C3 : Hid (∀ W, Calls Tryz.prog 82 #[.agg #[.int .i64 t.pf, .int .i64 t.pt]] W (BoolPost p3 W)) := Lib.hid fun W => by rw [← hp3]; exact period_any _ _ W
  have C4 : Hid (∀ W, t.In W W.heap.size → Calls Tryz.prog 83 #[.slice t.Ape t.npe t.cpe, .int .i64 0, .int .i64 15] W (IntPost e4 W)) := Lib.hid fun W hW => by rw [← he4]; exact asc_any _ _ _ _ _ _ W hW.lpe hW.pe
  have C5 : Hid (∀ W, t.In W W.heap.size → Calls Tryz.prog 83 #[.slice t.Aar t.nar t.car, .int .i64 0, .int .i64 15] W (IntPost e5 W)) := Lib.hid fun W hW => by rw [← he5]; exact asc_any _ _ _ _ _ _ W hW.lar hW.ar
  have C6 : Hid (∀ W, 1 ≤ t.kind → t.kind ≤ 6 → Calls Tryz.prog 84 #[.agg t.cells] W (IntPost e6 W)) := Lib.hid fun W h1 h2 => by rw [← he6]; exact fields_any t W h1 h2
  have C10 : Hid (∀ W, t.In W W.heap.size → Calls Tryz.prog 83 #[.slice t.Ain t.nin t.cin, .int .i64 1, .int .i64 1048576] W (IntPost e10 W)) := Lib.hid fun W hW => by rw [← he10]; exact asc_any _ _ _ _ _ _ W hW.lin hW.inu
  have C11 : Hid (∀ W, t.In W W.heap.size → Calls Tryz.prog 85 #[.slice t.Ain t.nin t.cin, .int .i64 t.id] W (BoolPost p11 W)) := Lib.hid fun W hW => by rw [← hp11]; exact contains_any _ _ _ _ _ W hW.lin hW.inu
  have C12 : Hid (∀ W, t.In W W.heap.size → Calls Tryz.prog 86 #[.slice t.Apa t.npa t.cpa] W (IntPost e12 W)) := Lib.hid fun W hW => by rw [← he12]; exact parts_any _ _ _ _ _ W hW.lpa hW.pa
  have HI := Lib.hid ty_info
  have HT := Lib.hid h
  rw [hR]
  clear hR hp3 he4 he5 he6 he8 he10 hp11 he12 h
  go_enter Tryz.func57, Tryz.ntmps57
  go_upto_region 1 with (fail)
  have hx : t.Box (w.alloc (.cells t.cells 54)) w.heap.size := Has.new _ _ _
  have hb1 : Below w.heap.size w (w.alloc (.cells t.cells 54)) := (Below.refl _ _).alloc (Nat.le_refl _) _
  obtain ⟨w1, hw1⟩ : ∃ w1, w.alloc (.cells t.cells 54) = w1 := ⟨_, rfl⟩
  rw [hw1] at hx hb1 ⊢
  clear hw1
  have HX := Lib.hid hx
  have HB := Lib.hid hb1
  obtain ⟨G, hG⟩ : ∃ G, w.heap.size = G := ⟨_, rfl⟩
  rw [hG] at HX HB hx HT ⊢
  obtain ⟨x0, x1, x2, x3, x4, x5, x6, x7, x8, x9, x10, x11, x12, x13, x14, x15, x16, x17, x18, x19, x20, bl⟩ := Ty.rules hx
  have HGW := Lib.hid hG
  clear hx hb1 hG x6 x7 x8 x9 x10 x11 x12 x13 x14 x15 x17 x18
  by_cases hq : 1 ≤ t.id ∧ t.id ≤ 1048576
  rotate_left
  · have HG : Hid (1 = R) := Lib.hid (by
      have := HF.out
      rw [if_neg hq, firstErr_stop (by omega)] at this
      exact this)
    have hd : decide (1 ≤ t.id ∧ t.id ≤ 1048576) = false := by rw [decide_eq_false_iff_not]; exact hq
    clear HF hq
    go_wp2_with (first | (go_at_call 81; refine (tywithin_any _ _ _ _).mono ?_; rintro e w' ⟨rfl, rfl⟩))
    go_ret
    exact ⟨ret_i64 HG.out, by rw [HGW.out]; exact HB.out⟩
  replace HF := Lib.hid (firstErr_next HF.out (if_pos hq))
  have hd1 : decide (1 ≤ t.id ∧ t.id ≤ 1048576) = true := by rw [decide_eq_true_iff]; exact hq
  clear hq
  by_cases hq : 1 ≤ t.kind ∧ t.kind ≤ 6
  rotate_left
  · have HG : Hid (11 = R) := Lib.hid (by
      have := HF.out
      rw [if_neg hq, firstErr_stop (by omega)] at this
      exact this)
    have hd : decide (1 ≤ t.kind ∧ t.kind ≤ 6) = false := by rw [decide_eq_false_iff_not]; exact hq
    clear HF hq
    go_wp2_with (first | (go_at_call 81; refine (tywithin_any _ _ _ _).mono ?_; rintro e w' ⟨rfl, rfl⟩))
    go_ret
    exact ⟨ret_i64 HG.out, by rw [HGW.out]; exact HB.out⟩
  replace HF := Lib.hid (firstErr_next HF.out (if_pos hq))
  have hd2 : decide (1 ≤ t.kind ∧ t.kind ≤ 6) = true := by rw [decide_eq_true_iff]; exact hq
  obtain ⟨hk0, hk1⟩ := hq
  have hq : True := trivial
  clear hq
  go_wp2_with (first | (go_at_call 81; refine (tywithin_any _ _ _ _).mono ?_; rintro e w' ⟨rfl, rfl⟩))
  refine (C3.out _).mono ?_
  rintro e w2 ⟨rfl, hb⟩
  have hs1 := HX.out.lt
  replace HX : Hid (t.Box w2 G) := Lib.hid (HX.out.below hb hs1)
  replace HB : Hid (Below G w w2) := Lib.hid (HB.out.trans (hb.mono (Nat.le_of_lt hs1)))
  have hs2 := HX.out.lt
  clear hb hs1 x0 x1 x2 x3 x4 x5 x16 x19 x20
  have x0 : w2.cell? ⟨G, 0, none⟩ = some (.int .i64 t.id) := HX.out.cell 0
  have x1 : w2.cell? ⟨G, 1, none⟩ = some (.int .i64 t.kind) := HX.out.cell 1
  have x4 : w2.cell? ⟨G, 4, none⟩ = some (.slice t.Ape t.npe t.cpe) := HX.out.cell 4
  have x5 : w2.cell? ⟨G, 5, none⟩ = some (.slice t.Aar t.nar t.car) := HX.out.cell 5
  have x16 : w2.cell? ⟨G, 16, none⟩ = some (.slice t.Are t.nre t.cre) := HX.out.cell 16
  have x19 : w2.cell? ⟨G, 19, none⟩ = some (.slice t.Ain t.nin t.cin) := HX.out.cell 19
  have x20 : w2.cell? ⟨G, 20, none⟩ = some (.slice t.Apa t.npa t.cpa) := HX.out.cell 20
  clear hd1 hd2 C3
  by_cases hq : p3 = true
  rotate_left
  · have HG : Hid (12 = R) := Lib.hid (by
      have := HF.out
      rw [if_neg hq, firstErr_stop (by omega)] at this
      exact this)
    obtain rfl : p3 = false := by simpa using hq
    clear HF hq
    go_wp2_with fail
    go_ret
    exact ⟨ret_i64 HG.out, by rw [HGW.out]; exact HB.out⟩
  replace HF := Lib.hid (firstErr_next HF.out (if_pos hq))
  obtain rfl := hq
  have hq : True := trivial
  clear hq
  go_wp2_with fail
  refine (C4.out _ (HT.out.later HB.out (Nat.le_of_lt hs2))).mono ?_
  rintro e w3 ⟨rfl, hb⟩
  have hs2 := HX.out.lt
  replace HX : Hid (t.Box w3 G) := Lib.hid (HX.out.below hb hs2)
  replace HB : Hid (Below G w w3) := Lib.hid (HB.out.trans (hb.mono (Nat.le_of_lt hs2)))
  have hs3 := HX.out.lt
  clear hb hs2 x0 x1 x4 x5 x16 x19 x20
  have x0 : w3.cell? ⟨G, 0, none⟩ = some (.int .i64 t.id) := HX.out.cell 0
  have x1 : w3.cell? ⟨G, 1, none⟩ = some (.int .i64 t.kind) := HX.out.cell 1
  have x5 : w3.cell? ⟨G, 5, none⟩ = some (.slice t.Aar t.nar t.car) := HX.out.cell 5
  have x16 : w3.cell? ⟨G, 16, none⟩ = some (.slice t.Are t.nre t.cre) := HX.out.cell 16
  have x19 : w3.cell? ⟨G, 19, none⟩ = some (.slice t.Ain t.nin t.cin) := HX.out.cell 19
  have x20 : w3.cell? ⟨G, 20, none⟩ = some (.slice t.Apa t.npa t.cpa) := HX.out.cell 20
  clear C4
  by_cases hq : e4 = 0
  rotate_left
  · have HG : Hid (e4 = R) := Lib.hid (by
      have := HF.out
      rw [firstErr_stop hq] at this
      exact this)
    have hq1 : (e4 == 0) = false := by rw [beq_eq_false_iff_ne]; exact hq
    have hq2 : (e4 != 0) = true := by simp [hq]
    clear HF
    go_wp2_with fail
    go_ret
    exact ⟨ret_i64 HG.out, by rw [HGW.out]; exact HB.out⟩
  subst hq
  replace HF := Lib.hid (firstErr_next HF.out rfl)
  go_wp2_with fail
  refine (C5.out _ (HT.out.later HB.out (Nat.le_of_lt hs3))).mono ?_
  rintro e w4 ⟨rfl, hb⟩
  have hs3 := HX.out.lt
  replace HX : Hid (t.Box w4 G) := Lib.hid (HX.out.below hb hs3)
  replace HB : Hid (Below G w w4) := Lib.hid (HB.out.trans (hb.mono (Nat.le_of_lt hs3)))
  have hs4 := HX.out.lt
  clear hb hs3 x0 x1 x5 x16 x19 x20
  have x0 : w4.cell? ⟨G, 0, none⟩ = some (.int .i64 t.id) := HX.out.cell 0
  have x1 : w4.cell? ⟨G, 1, none⟩ = some (.int .i64 t.kind) := HX.out.cell 1
  have x16 : w4.cell? ⟨G, 16, none⟩ = some (.slice t.Are t.nre t.cre) := HX.out.cell 16
  have x19 : w4.cell? ⟨G, 19, none⟩ = some (.slice t.Ain t.nin t.cin) := HX.out.cell 19
  have x20 : w4.cell? ⟨G, 20, none⟩ = some (.slice t.Apa t.npa t.cpa) := HX.out.cell 20
  clear C5
  by_cases hq : e5 = 0
  rotate_left
  · have HG : Hid (e5 = R) := Lib.hid (by
      have := HF.out
      rw [firstErr_stop hq] at this
      exact this)
    have hq1 : (e5 == 0) = false := by rw [beq_eq_false_iff_ne]; exact hq
    have hq2 : (e5 != 0) = true := by simp [hq]
    clear HF
    go_wp2_with fail
    go_ret
    exact ⟨ret_i64 HG.out, by rw [HGW.out]; exact HB.out⟩
  subst hq
  replace HF := Lib.hid (firstErr_next HF.out rfl)
  go_upto_region 14 with (first
    | (refine wpList_load_has ?_ 54 (.tmp 1) ?_ G ?_ _ t.cells _ HX.out Tryz.underlying54 ?_ HI.out ?_; rfl; rfl; rfl; rfl)
    | (go_at_call 84; refine (C6.out _ hk0 hk1).mono ?_; rintro e w5 ⟨rfl, hb⟩))
  have hs4 := HX.out.lt
  replace HX : Hid (t.Box w5 G) := Lib.hid (HX.out.below hb hs4)
  replace HB : Hid (Below G w w5) := Lib.hid (HB.out.trans (hb.mono (Nat.le_of_lt hs4)))
  have hs5 := HX.out.lt
  clear hb hs4 x0 x1 x16 x19 x20
  have x0 : w5.cell? ⟨G, 0, none⟩ = some (.int .i64 t.id) := HX.out.cell 0
  have x16 : w5.cell? ⟨G, 16, none⟩ = some (.slice t.Are t.nre t.cre) := HX.out.cell 16
  have x19 : w5.cell? ⟨G, 19, none⟩ = some (.slice t.Ain t.nin t.cin) := HX.out.cell 19
  have x20 : w5.cell? ⟨G, 20, none⟩ = some (.slice t.Apa t.npa t.cpa) := HX.out.cell 20
  clear C6 hk0 hk1
  by_cases hq : e6 = 0
  rotate_left
  · have HG : Hid (e6 = R) := Lib.hid (by
      have := HF.out
      rw [firstErr_stop hq] at this
      exact this)
    have hq1 : (e6 == 0) = false := by rw [beq_eq_false_iff_ne]; exact hq
    have hq2 : (e6 != 0) = true := by simp [hq]
    clear HF
    go_wp2_with fail
    go_ret
    exact ⟨ret_i64 HG.out, by rw [HGW.out]; exact HB.out⟩
  subst hq
  replace HF := Lib.hid (firstErr_next HF.out rfl)
  obtain ⟨nre, hnre⟩ : ∃ n, t.nre = n := ⟨_, rfl⟩
  rw [hnre] at x16 HF HS8
  have HNR := Lib.hid hnre
  clear hnre
  by_cases hq : ¬ (8 < nre)
  rotate_left
  · have HG : Hid (4 = R) := Lib.hid (by
      have := HF.out
      rw [if_pos (Classical.not_not.1 hq), firstErr_stop (by omega)] at this
      exact this)
    have hq9 : 8 < nre := Classical.not_not.1 hq
    have hd : decide ((8 : Int) < nre) = true := by simp; omega
    clear HF hq
    go_wp2_with fail
    go_ret
    exact ⟨ret_i64 HG.out, by rw [HGW.out]; exact HB.out⟩
  replace HF := Lib.hid (firstErr_next HF.out (if_neg hq))
  have hd : decide ((8 : Int) < nre) = false := by simp; omega
  have hd8 : nre ≤ 8 := by omega
  have hd9 : decide (8 < nre) = false := by simp; omega
  clear hq
  go_wp2_with fail
  go_loop [7, 45] (fun _ i => ∃ k : Nat, k ≤ nre ∧ i = .int .i64 k ∧ Hid (scan (Ty.rc t.fre) (nre - k) k = e8)) (fun _ i => nre - (intOf i).toNat)
  case atStart => exact ⟨0, Nat.zero_le _, rfl, HS8⟩
  case round =>
    clear HS8 hd hd9
    obtain ⟨k, hk, rfl, HS8⟩ := hrel
    by_cases hlt : k < nre
    · obtain ⟨b, o, hA, _, hc0⟩ := (HT.out.later HB.out (Nat.le_of_lt hs5)).re.get (j := k) (by rw [HNR.out]; exact hlt)
      obtain ⟨x, hx⟩ : ∃ x, t.fre k = x := ⟨_, rfl⟩
      rw [hx] at hc0
      have HC : Hid (Ty.rc t.fre k = if ¬ (0 ≤ x ∧ x ≤ 2000000) then 1 else 0) := Lib.hid (by rw [Ty.rc, hx])
      have hk0 : (0 : Int) ≤ k := by omega
      have hk1 : (k : Int) < nre := by omega
      rw [hA]
      clear hx hA
      by_cases hb : 0 ≤ x ∧ x ≤ 2000000
      · have HG : Hid (scan (Ty.rc t.fre) (nre - (k + 1)) (k + 1) = e8) := Lib.hid (by rw [← scan_go _ hlt (by rw [HC.out, if_neg (fun c => c hb)])]; exact HS8.out)
        have hd : decide (0 ≤ x ∧ x ≤ 2000000) = true := by rw [decide_eq_true_iff]; exact hb
        clear HC HS8 hb
        go_wp2_with (first | (go_at_call 81; refine (tywithin_any _ _ _ _).mono ?_; rintro e w' ⟨rfl, rfl⟩))
        go_round
        case rel => exact ⟨k + 1, by omega, by go_num, HG⟩
        case measure => simp [intOf]; omega
      · have HG : Hid (1 = R) := Lib.hid (by
          have e : e8 = 1 := by rw [← HS8.out, scan_stop _ hlt (by rw [HC.out, if_pos hb]; omega), HC.out, if_pos hb]
          have := HF.out
          rw [e, firstErr_stop (by omega)] at this
          exact this)
        have hd : decide (0 ≤ x ∧ x ≤ 2000000) = false := by rw [decide_eq_false_iff_not]; exact hb
        clear HC HS8 hb HF
        go_wp2_with (first | (go_at_call 81; refine (tywithin_any _ _ _ _).mono ?_; rintro e w' ⟨rfl, rfl⟩))
        go_ret
        exact ⟨ret_i64 HG.out, by rw [HGW.out]; exact HB.out⟩
    · have hkn : k = nre := by omega
      replace HF := Lib.hid (firstErr_next HF.out (by rw [← HS8.out, hkn, scan_end]))
      subst hkn
      clear HS8 hk hlt hd8
      by_cases hq : ¬ (12 < t.nin)
      rotate_left
      · have HG : Hid (4 = R) := Lib.hid (by
          have := HF.out
          rw [if_pos (Classical.not_not.1 hq), firstErr_stop (by omega)] at this
          exact this)
        have hq9 : 12 < t.nin := Classical.not_not.1 hq
        have hd : decide ((12 : Int) < t.nin) = true := by simp; omega
        clear HF hq
        go_wp2_with fail
        go_ret
        exact ⟨ret_i64 HG.out, by rw [HGW.out]; exact HB.out⟩
      replace HF := Lib.hid (firstErr_next HF.out (if_neg hq))
      have hd : decide ((12 : Int) < t.nin) = false := by simp; omega
      have hd9 : decide (12 < t.nin) = false := by simp; omega
      clear hq
      go_wp2_with fail
      refine (C10.out _ (HT.out.later HB.out (Nat.le_of_lt hs5))).mono ?_
      rintro e w6 ⟨rfl, hb⟩
      have hs5 := HX.out.lt
      replace HX : Hid (t.Box w6 G) := Lib.hid (HX.out.below hb hs5)
      replace HB : Hid (Below G w w6) := Lib.hid (HB.out.trans (hb.mono (Nat.le_of_lt hs5)))
      have hs6 := HX.out.lt
      clear hb hs5 x0 x16 x19 x20
      have x0 : w6.cell? ⟨G, 0, none⟩ = some (.int .i64 t.id) := HX.out.cell 0
      have x19 : w6.cell? ⟨G, 19, none⟩ = some (.slice t.Ain t.nin t.cin) := HX.out.cell 19
      have x20 : w6.cell? ⟨G, 20, none⟩ = some (.slice t.Apa t.npa t.cpa) := HX.out.cell 20
      clear C10 hd hd9
      by_cases hq : e10 = 0
      rotate_left
      · have HG : Hid (e10 = R) := Lib.hid (by
          have := HF.out
          rw [firstErr_stop hq] at this
          exact this)
        have hq1 : (e10 == 0) = false := by rw [beq_eq_false_iff_ne]; exact hq
        have hq2 : (e10 != 0) = true := by simp [hq]
        clear HF
        go_wp2_with fail
        go_ret
        exact ⟨ret_i64 HG.out, by rw [HGW.out]; exact HB.out⟩
      subst hq
      replace HF := Lib.hid (firstErr_next HF.out rfl)
      go_wp2_with fail
      refine (C11.out _ (HT.out.later HB.out (Nat.le_of_lt hs6))).mono ?_
      rintro e w7 ⟨rfl, hb⟩
      have hs6 := HX.out.lt
      replace HX : Hid (t.Box w7 G) := Lib.hid (HX.out.below hb hs6)
      replace HB : Hid (Below G w w7) := Lib.hid (HB.out.trans (hb.mono (Nat.le_of_lt hs6)))
      have hs7 := HX.out.lt
      clear hb hs6 x0 x19 x20
      have x20 : w7.cell? ⟨G, 20, none⟩ = some (.slice t.Apa t.npa t.cpa) := HX.out.cell 20
      clear C11
      by_cases hq : ¬ (p11 = true)
      rotate_left
      · have HG : Hid (10 = R) := Lib.hid (by
          have := HF.out
          rw [if_pos (Classical.not_not.1 hq), firstErr_stop (by omega)] at this
          exact this)
        obtain rfl : p11 = true := Classical.not_not.1 hq
        clear HF hq
        go_wp2_with fail
        go_ret
        exact ⟨ret_i64 HG.out, by rw [HGW.out]; exact HB.out⟩
      replace HF := Lib.hid (firstErr_next HF.out (if_neg hq))
      obtain rfl : p11 = false := by simpa using hq
      have hq : True := trivial
      clear hq
      go_wp2_with fail
      refine (C12.out _ (HT.out.later HB.out (Nat.le_of_lt hs7))).mono ?_
      rintro e w8 ⟨rfl, hb⟩
      have hs7 := HX.out.lt
      replace HX : Hid (t.Box w8 G) := Lib.hid (HX.out.below hb hs7)
      replace HB : Hid (Below G w w8) := Lib.hid (HB.out.trans (hb.mono (Nat.le_of_lt hs7)))
      have hs8 := HX.out.lt
      clear hb hs7 x20
      have HG : Hid (e12 = R) := Lib.hid (by
        have := HF.out
        unfold firstErr firstErr at this
        split at this
        · omega
        · exact this)
      clear HF C12
      go_wp2_with fail
      go_ret
      exact ⟨ret_i64 HG.out, by rw [HGW.out]; exact HB.out⟩
end Go.Proofs.YtbeikfopneeodaaGreat

namespace Go.Proofs.YtbeikfopneeodaaGreat
open Go.RowKit

/-- the treaty t lies in block G, which the call has made; what was there before is as it was -/
structure Ty.Sits (t : Ty) (w : World) (G : Nat) (W : World) : Prop where
  box : t.Box W G
  below : Below G w W
  ins : t.In w G
  sz : w.heap.size = G

section
variable {t : Ty} {w W W' : World} {G : Nat}
theorem Ty.Sits.new (h : t.In w w.heap.size) : t.Sits w w.heap.size (w.alloc (.cells t.cells 54)) := ⟨Has.new _ _ _, (Below.refl _ _).alloc (Nat.le_refl _) _, h, rfl⟩
theorem Ty.Sits.lt (h : t.Sits w G W) : G < W.heap.size := h.box.lt
theorem Ty.Sits.le (h : t.Sits w G W) : w.heap.size ≤ W.heap.size := by have := h.lt; have := h.sz; omega
theorem Ty.Sits.next (h : t.Sits w G W) (hb : Below W.heap.size W W') : t.Sits w G W' := ⟨h.box.below hb h.lt, h.below.trans (hb.mono (Nat.le_of_lt h.lt)), h.ins, h.sz⟩
theorem Ty.Sits.up (h : t.Sits w G W) (hb : Below (G + 1) W W') : t.Sits w G W' := ⟨h.box.below hb (Nat.lt_succ_self G), h.below.trans (hb.mono (Nat.le_succ G)), h.ins, h.sz⟩
theorem Ty.Sits.drewN (h : t.Sits w G W) (n : Nat) : t.Sits w G (W.drewN n) := ⟨h.box, below_drewN h.below n, h.ins, h.sz⟩
theorem Ty.Sits.alloc (h : t.Sits w G W) (o : Obj) : t.Sits w G (W.alloc o) := h.next ((Below.refl _ _).alloc (Nat.le_refl _) _)
theorem Ty.Sits.inn (h : t.Sits w G W) : t.In W W.heap.size := (h.ins.below h.below).mono (Nat.le_of_lt h.lt)
theorem Ty.Sits.out (h : t.Sits w G W) : Below w.heap.size w W := by rw [h.sz]; exact h.below
end

section
variable {P : Program} {ops : Array Oper} {rest : List Oper} {o : Oper} {a : Act} {w : World} {Q : Exit → Act → World → Prop}
/-- a whole struct out of a block that is known whole, at an operation that is guarded and wanted -/
theorem wpList_load_want (hgd : Region.wanted o (yielded ops a.tmps) = true) (ty : TypeId) (x : Operand) (ho : o.op = .load ty x)
    (g : Nat) (hx : a.eval x = .pointer (some ⟨g, 0, none⟩)) (t : TypeId) (cs : Array Value) (d : TypeDesc) (hg : Has w g cs t)
    (hu : P.underlying ty = some d) (hd : (match d with | .struct _ | .array _ _ => true | _ => false) = true) (hi : (P.info? ty).map (·.size) = some cs.size)
    (h : wpList P ops Q rest (a.put o.dst (.agg cs)) w) : wpList P ops Q (o :: rest) a w :=
  wpList_step fun K hK => by
    simp only [hgd, if_true]
    exact wp_load_row ty x ho g hx t cs (0, 0) d hg hu hd hi (hK _ _ h)
end
end Go.Proofs.YtbeikfopneeodaaGreat
