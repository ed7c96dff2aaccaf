/- The fields of a treaty by the rule of its kind: contract.fields. -/
import Derived.Test.YtbeikfopneeodaaGreatMt06
import Derived.LoopTactic
namespace Go.Proofs.YtbeikfopneeodaaGreat
open Go.RowKit
set_option linter.unusedVariables false

def valCells (t : Ty) : Array Value := #[.int .i64 t.risk, .int .i64 t.cess, .int .i64 t.line, .int .i64 t.lines, .int .i64 t.ret, .int .i64 t.lim, .int .i64 t.win, .int .i64 t.ded, .int .i64 t.agg, .int .i64 t.base, .int .i64 t.prem]

set_option maxRecDepth 100000 in
theorem vals_info : (Tryz.prog.info? 203).map (·.size) = some 11 := by kernel_rfl
set_option maxRecDepth 100000 in
theorem vals_built (t : Ty) : Tryz.prog.built 203 [(0, .int .i64 t.risk), (1, .int .i64 t.cess), (2, .int .i64 t.line), (3, .int .i64 t.lines), (4, .int .i64 t.ret), (5, .int .i64 t.lim), (6, .int .i64 t.win), (7, .int .i64 t.ded), (8, .int .i64 t.agg), (9, .int .i64 t.base), (10, .int .i64 t.prem)] = some (valCells t) := by kernel_rfl

theorem rule_any (k : Int) (w : World) (h0 : 1 ≤ k) (h1 : k ≤ 6) : Calls Tryz.prog 123 #[.int .i64 k] w (RulePost k w) := by
  have h : k = 1 ∨ k = 2 ∨ k = 3 ∨ k = 4 ∨ k = 5 ∨ k = 6 := by omega
  rcases h with rfl | rfl | rfl | rfl | rfl | rfl
  · exact rule1 w
  · exact rule2 w
  · exact rule3 w
  · exact rule4 w
  · exact rule5 w
  · exact rule6 w

set_option maxRecDepth 100000 in
theorem val_index (t : Ty) (k : Nat) (h : k < 11) (w : World) : (Instr.index 203 (.agg (valCells t)) (.int .i64 (k : Int))).run Tryz.prog w = .ok (.int .i64 (t.val k)) w :=
  match k, h with
  | 0, _ => by kernel_rfl
  | 1, _ => by kernel_rfl
  | 2, _ => by kernel_rfl
  | 3, _ => by kernel_rfl
  | 4, _ => by kernel_rfl
  | 5, _ => by kernel_rfl
  | 6, _ => by kernel_rfl
  | 7, _ => by kernel_rfl
  | 8, _ => by kernel_rfl
  | 9, _ => by kernel_rfl
  | 10, _ => by kernel_rfl

theorem span_cells (k : Int) (i : Nat) (h : i < 11) : (spanCells k)[i * 2]? = some (.int .i64 (Ty.lo k i)) ∧ (spanCells k)[i * 2 + 1]? = some (.int .i64 (Ty.hi k i)) := by
  have hk : i = 0 ∨ i = 1 ∨ i = 2 ∨ i = 3 ∨ i = 4 ∨ i = 5 ∨ i = 6 ∨ i = 7 ∨ i = 8 ∨ i = 9 ∨ i = 10 := by omega
  rcases hk with rfl | rfl | rfl | rfl | rfl | rfl | rfl | rfl | rfl | rfl | rfl <;> exact ⟨rfl, rfl⟩

/-- a treaty that lies in block b -/
abbrev Ty.Box (t : Ty) (w : World) (b : Nat) : Prop := Has w b t.cells 54
theorem Ty.rules {t : Ty} {w : World} {b : Nat} (h : t.Box w b) :
    w.cell? ⟨b, 0, none⟩ = some (.int .i64 t.id) ∧
    w.cell? ⟨b, 1, none⟩ = some (.int .i64 t.kind) ∧
    w.cell? ⟨b, 2, none⟩ = some (.int .i64 t.pf) ∧
    w.cell? ⟨b, 3, none⟩ = some (.int .i64 t.pt) ∧
    w.cell? ⟨b, 4, none⟩ = some (.slice t.Ape t.npe t.cpe) ∧
    w.cell? ⟨b, 5, none⟩ = some (.slice t.Aar t.nar t.car) ∧
    w.cell? ⟨b, 6, none⟩ = some (.int .i64 t.risk) ∧
    w.cell? ⟨b, 7, none⟩ = some (.int .i64 t.cess) ∧
    w.cell? ⟨b, 8, none⟩ = some (.int .i64 t.line) ∧
    w.cell? ⟨b, 9, none⟩ = some (.int .i64 t.lines) ∧
    w.cell? ⟨b, 10, none⟩ = some (.int .i64 t.ret) ∧
    w.cell? ⟨b, 11, none⟩ = some (.int .i64 t.lim) ∧
    w.cell? ⟨b, 12, none⟩ = some (.int .i64 t.win) ∧
    w.cell? ⟨b, 13, none⟩ = some (.int .i64 t.ded) ∧
    w.cell? ⟨b, 14, none⟩ = some (.int .i64 t.agg) ∧
    w.cell? ⟨b, 15, none⟩ = some (.int .i64 t.prem) ∧
    w.cell? ⟨b, 16, none⟩ = some (.slice t.Are t.nre t.cre) ∧
    w.cell? ⟨b, 17, none⟩ = some (.bool t.timed) ∧
    w.cell? ⟨b, 18, none⟩ = some (.int .i64 t.base) ∧
    w.cell? ⟨b, 19, none⟩ = some (.slice t.Ain t.nin t.cin) ∧
    w.cell? ⟨b, 20, none⟩ = some (.slice t.Apa t.npa t.cpa) ∧ b < w.heap.size :=
  ⟨h.cell 0, h.cell 1, h.cell 2, h.cell 3, h.cell 4, h.cell 5, h.cell 6, h.cell 7, h.cell 8, h.cell 9, h.cell 10, h.cell 11, h.cell 12, h.cell 13, h.cell 14, h.cell 15, h.cell 16, h.cell 17, h.cell 18, h.cell 19, h.cell 20, h.lt⟩
set_option maxRecDepth 100000 in
theorem ty_info : (Tryz.prog.info? 54).map (·.size) = some 21 := by kernel_rfl

set_option maxRecDepth 100000 in
set_option maxHeartbeats 8000000 in
theorem fields_any (t : Ty) (w : World) (h0 : 1 ≤ t.kind) (h1 : t.kind ≤ 6) : Calls Tryz.prog 84 #[.agg t.cells] w (IntPost t.ferr w) := by
  have HI := Lib.hid vals_info
  have HR := Lib.hid rule_info
  have HV := Lib.hid (vals_built t)
  obtain ⟨R, hR⟩ : ∃ R, t.ferr = R := ⟨_, rfl⟩
  obtain ⟨r1, hr1⟩ : ∃ r, scan (Ty.fc1 t.kind t.val) 11 0 = r := ⟨_, rfl⟩
  obtain ⟨r4, hr4⟩ : ∃ r, scan (Ty.fc2 t.kind t.val) 11 0 = r := ⟨_, rfl⟩
  have HF : Hid (firstErr [r1, if 0 < t.nre ∧ t.kind ≠ 4 ∧ t.kind ≠ 5 then 20 else 0, if t.nre = 0 ∧ t.timed = true then 20 else 0, r4] = R) := Lib.hid (by rw [← hr1, ← hr4, ← hR]; rfl)
  have HS1 : Hid (scan (Ty.fc1 t.kind t.val) (11 - 0) 0 = r1) := Lib.hid hr1
  have HS4 : Hid (scan (Ty.fc2 t.kind t.val) (11 - 0) 0 = r4) := Lib.hid hr4
  rw [hR]
  clear hR hr1 hr4
  go_enter Tryz.func84, Tryz.ntmps84
  go_upto_region 1 with (fail)
  have hx : t.Box (w.alloc (.cells t.cells 54)) w.heap.size := Has.new _ _ _
  have hb1 : Below w.heap.size w (w.alloc (.cells t.cells 54)) := (Below.refl _ _).alloc (Nat.le_refl _) _
  obtain ⟨w1, hw1⟩ : ∃ w1, w.alloc (.cells t.cells 54) = w1 := ⟨_, rfl⟩
  rw [hw1] at hx hb1 ⊢
  clear hw1
  have HX := Lib.hid hx
  have HB := Lib.hid hb1
  obtain ⟨G, hG⟩ : ∃ G, w.heap.size = G := ⟨_, rfl⟩
  rw [hG] at HX HB hx ⊢
  obtain ⟨x0, x1, x2, x3, x4, x5, x6, x7, x8, x9, x10, x11, x12, x13, x14, x15, x16, x17, x18, x19, x20, bl⟩ := Ty.rules hx
  have HGW := Lib.hid hG
  clear hx hb1 hG
  go_upto_region 2 with (first
    | (refine wpList_build_is ?_ 203 [(0, .tmp 10), (1, .tmp 12), (2, .tmp 14), (3, .tmp 16), (4, .tmp 18), (5, .tmp 20), (6, .tmp 22), (7, .tmp 24), (8, .tmp 26), (9, .tmp 28), (10, .tmp 30)] ?_ [(0, .int .i64 t.risk), (1, .int .i64 t.cess), (2, .int .i64 t.line), (3, .int .i64 t.lines), (4, .int .i64 t.ret), (5, .int .i64 t.lim), (6, .int .i64 t.win), (7, .int .i64 t.ded), (8, .int .i64 t.agg), (9, .int .i64 t.base), (10, .int .i64 t.prem)] ?_ (valCells t) HV.out ?_; rfl; rfl; rfl)
    | (refine wpList_store_has rfl 203 (.tmp 3) (.tmp 31) rfl w1.heap.size rfl (valCells t) rfl _ _ (Has.new w1 _ _) HI.out rfl rfl ?_; intro w2 hh2 hl2))
  simp only [Act.put]
  have HX2 : Hid (t.Box w2 G) := Lib.hid ((HX.out.alloc _).leaves hl2 (by omega))
  have HV2 := Lib.hid hh2
  have HB2 : Hid (Below G w w2) := Lib.hid ((HB.out.alloc (Nat.le_of_lt bl) _).trans (hl2.below (fun k hk => by omega) (by simp; omega)))
  have hs2 : w1.heap.size < w2.heap.size := hh2.lt
  obtain ⟨G1, hG1⟩ : ∃ g, w1.heap.size = g := ⟨_, rfl⟩
  rw [hG1] at HV2 hs2 bl ⊢
  clear hh2 hl2 hG1 HX HB x0 x1 x2 x3 x4 x5 x6 x7 x8 x9 x10 x11 x12 x13 x14 x15 x16 x17 x18 x19 x20
  have y1 := HX2.out.cell 1
  simp only [Ty.cells] at y1
  go_wp2_with fail
  refine (rule_any t.kind _ h0 h1).mono ?_
  rintro e w3 ⟨rfl, hb3⟩
  have hs3 := hb3.size
  have HX3 : Hid (t.Box w3 G) := Lib.hid (HX2.out.below hb3 HX2.out.lt)
  have HV3 := Lib.hid (HV2.out.below hb3 HV2.out.lt)
  have HB3 : Hid (Below G w w3) := Lib.hid (HB2.out.trans (hb3.mono (by omega)))
  clear hb3 HX2 HV2 HB2 y1
  go_upto_region 3 with (first
    | (refine wpList_store_has ?_ 207 (.tmp 4) (.tmp 34) ?_ w3.heap.size ?_ (spanCells t.kind) ?_ _ _ (Has.new w3 _ _) HR.out ?_ ?_ ?_; rfl; rfl; rfl; rfl; rfl; rfl; intro w4 hh4 hl4))
  simp only [Act.put]
  have HX : Hid (t.Box w4 G) := Lib.hid ((HX3.out.alloc _).leaves hl4 (by omega))
  have HV4 : Hid (Has w4 G1 (valCells t) 203) := Lib.hid ((HV3.out.alloc _).leaves hl4 (by have := HV3.out.lt; omega))
  have HS := Lib.hid hh4
  have HB : Hid (Below G w w4) := Lib.hid ((HB3.out.alloc (by omega) _).trans (hl4.below (fun k hk => by omega) (by simp; omega)))
  have hs4 : w3.heap.size < w4.heap.size := hh4.lt
  obtain ⟨G2, hG2⟩ : ∃ g, w3.heap.size = g := ⟨_, rfl⟩
  rw [hG2] at HS hs3 hs4 ⊢
  clear hh4 hl4 hG2 HX3 HV3 HB3
  have hg12 : G1 < G2 := by omega
  go_upto_region 4 with (first
    | (refine wpList_load_has ?_ 203 (.tmp 3) ?_ G1 ?_ _ (valCells t) _ HV4.out Tryz.underlying203 ?_ HI.out ?_; rfl; rfl; rfl; rfl))
  go_loop [5, 6, 36] (fun _ _ i => ∃ k : Nat, k ≤ 11 ∧ i = .int .i64 k ∧ Hid (scan (Ty.fc1 t.kind t.val) (11 - k) k = r1)) (fun _ _ i => 11 - (intOf i).toNat)
  case atStart => exact ⟨0, Nat.zero_le _, rfl, HS1⟩
  case round =>
    clear HS1
    obtain ⟨k, hk, rfl, HS1⟩ := hrel
    by_cases hlt : k < 11
    · have hix := fun W => val_index t k hlt W
      obtain ⟨sc0, sc1⟩ := span_cells t.kind k hlt
      have hc0 := (HS.out.cell (k * 2)).trans sc0
      have hc1 := (HS.out.cell (k * 2 + 1)).trans sc1
      obtain ⟨x, hx⟩ : ∃ x, t.val k = x := ⟨_, rfl⟩
      obtain ⟨a, ha⟩ : ∃ x, Ty.lo t.kind k = x := ⟨_, rfl⟩
      obtain ⟨z, hz⟩ : ∃ x, Ty.hi t.kind k = x := ⟨_, rfl⟩
      rw [hx] at hix
      rw [ha] at hc0
      rw [hz] at hc1
      have HC : Hid (Ty.fc1 t.kind t.val k = if (a = 0 ∧ z = 0) ∧ x ≠ 0 then 20 else 0) := Lib.hid (by rw [Ty.fc1, hx, ha, hz])
      have hk0 : (0 : Int) ≤ k := by omega
      have hk1 : (k : Int) < 11 := by omega
      clear hx ha hz sc0 sc1
      by_cases hb : (a = 0 ∧ z = 0) ∧ x ≠ 0
      · have HG : Hid (20 = R) := Lib.hid (by
          have e : r1 = 20 := by rw [← HS1.out, scan_stop _ hlt (by rw [HC.out, if_pos hb]; omega), HC.out, if_pos hb]
          have := HF.out
          rw [e, firstErr_stop (by omega)] at this
          exact this)
        obtain ⟨⟨rfl, rfl⟩, hx0⟩ := hb
        have hx1 : (x == 0) = false := by rw [beq_eq_false_iff_ne]; exact hx0
        have hx2 : (x != 0) = true := by simp [hx0]
        clear HC HS1 HF
        go_wp2_with fail
        go_ret
        exact ⟨ret_i64 HG.out, by rw [HGW.out]; exact HB.out⟩
      · have HG : Hid (scan (Ty.fc1 t.kind t.val) (11 - (k + 1)) (k + 1) = r1) := Lib.hid (by rw [← scan_go _ hlt (by rw [HC.out, if_neg hb])]; exact HS1.out)
        have hw : (a = 0 ∧ z = 0 ∧ x = 0) ∨ a ≠ 0 ∨ (a = 0 ∧ z ≠ 0) := by omega
        clear HC HS1 HF hb
        rcases hw with ⟨rfl, rfl, rfl⟩ | ha | ⟨rfl, hz⟩
        · go_wp2_with fail
          go_round
          case rel => exact ⟨k + 1, by omega, by go_num, HG⟩
          case measure => simp [intOf]; omega
        · have ha1 : (a == 0) = false := by rw [beq_eq_false_iff_ne]; exact ha
          go_wp2_with fail
          go_round
          case rel => exact ⟨k + 1, by omega, by go_num, HG⟩
          case measure => simp [intOf]; omega
        · have hz1 : (z == 0) = false := by rw [beq_eq_false_iff_ne]; exact hz
          go_wp2_with fail
          go_round
          case rel => exact ⟨k + 1, by omega, by go_num, HG⟩
          case measure => simp [intOf]; omega
    · have hk11 : k = 11 := by omega
      have hd : decide ((k : Int) < 11) = false := by simp; omega
      have HF2 : Hid (firstErr [if 0 < t.nre ∧ t.kind ≠ 4 ∧ t.kind ≠ 5 then 20 else 0, if t.nre = 0 ∧ t.timed = true then 20 else 0, r4] = R) := Lib.hid (by
        have e : r1 = 0 := by rw [← HS1.out, hk11]; rfl
        have := HF.out
        rw [e, firstErr_go] at this
        exact this)
      have y1 := HX.out.cell 1
      have y16 := HX.out.cell 16
      have y17 := HX.out.cell 17
      simp only [Ty.cells] at y1 y16 y17
      obtain ⟨nre, hnre⟩ : ∃ n, t.nre = n := ⟨_, rfl⟩
      obtain ⟨tm, htm⟩ : ∃ n, t.timed = n := ⟨_, rfl⟩
      rw [hnre] at y16 HF2
      rw [htm] at y17 HF2
      clear HS1 HF hk hlt hnre htm hk11
      by_cases h2 : 0 < nre ∧ t.kind ≠ 4 ∧ t.kind ≠ 5
      · have HG : Hid (20 = R) := Lib.hid (by
          have := HF2.out
          rw [if_pos h2, firstErr_stop (by omega)] at this
          exact this)
        obtain ⟨h21, h22, h23⟩ := h2
        have h24 : (t.kind == 4) = false := by rw [beq_eq_false_iff_ne]; exact h22
        have h25 : (t.kind == 5) = false := by rw [beq_eq_false_iff_ne]; exact h23
        have h26 : (t.kind != 4) = true := by simp [h22]
        have h27 : (t.kind != 5) = true := by simp [h23]
        have h28 : decide ((0 : Int) < nre) = true := by simp; omega
        clear HF2 HS4
        go_wp2_with fail
        go_ret
        exact ⟨ret_i64 HG.out, by rw [HGW.out]; exact HB.out⟩
      · have HF3 : Hid (firstErr [if nre = 0 ∧ tm = true then 20 else 0, r4] = R) := Lib.hid (by
          have := HF2.out
          rw [if_neg h2, firstErr_go] at this
          exact this)
        clear HF2
        by_cases h3 : nre = 0 ∧ tm = true
        · have HG : Hid (20 = R) := Lib.hid (by
            have := HF3.out
            rw [if_pos h3, firstErr_stop (by omega)] at this
            exact this)
          obtain ⟨h31, rfl⟩ := h3
          have h32 : decide ((0 : Int) < nre) = false := by simp; omega
          have h33 : ((nre : Int) == 0) = true := by rw [beq_iff_eq]; omega
          have h34 : decide (0 < nre) = false := by simp; omega
          have h35 : ¬ 0 < nre := by omega
          clear HF3 HS4 h2 h31
          go_wp2_with fail
          go_ret
          exact ⟨ret_i64 HG.out, by rw [HGW.out]; exact HB.out⟩
        · have HF4 : Hid (firstErr [r4] = R) := Lib.hid (by
            have := HF3.out
            rw [if_neg h3, firstErr_go] at this
            exact this)
          clear HF3
          have HW : Hid (nre = 0 ∧ tm = false ∨ 0 < nre ∧ (t.kind = 4 ∨ t.kind = 5)) := Lib.hid (by
            by_cases c : nre = 0
            · refine .inl ⟨c, ?_⟩
              cases tm
              · rfl
              · exact absurd ⟨c, rfl⟩ h3
            · refine .inr ⟨by omega, ?_⟩
              by_cases c4 : t.kind = 4
              · exact .inl c4
              · by_cases c5 : t.kind = 5
                · exact .inr c5
                · exact absurd ⟨by omega, c4, c5⟩ h2)
          clear h2 h3
          have HW2 : Hid ((decide ((0 : Int) < nre) = false ∧ decide (0 < nre) = false ∧ ¬ 0 < nre ∧ ((nre : Int) == 0) = true ∧ tm = false) ∨ (decide ((0 : Int) < nre) = true ∧ 0 < nre ∧ ((nre : Int) == 0) = false ∧ (t.kind == 4) = true ∧ (t.kind != 4) = false) ∨
              (decide ((0 : Int) < nre) = true ∧ 0 < nre ∧ ((nre : Int) == 0) = false ∧ (t.kind == 4) = false ∧ (t.kind != 4) = true ∧ (t.kind == 5) = true ∧ (t.kind != 5) = false)) := Lib.hid (by
            rcases HW.out with ⟨h1, h2⟩ | ⟨h1, h2 | h2⟩
            · exact .inl ⟨by simp; omega, by simp; omega, by omega, by simp; omega, h2⟩
            · exact .inr (.inl ⟨by simp; omega, by omega, by simp; omega, by simp [h2], by simp [h2]⟩)
            · exact .inr (.inr ⟨by simp; omega, by omega, by simp; omega, by simp [h2], by simp [h2], by simp [h2], by simp [h2]⟩))
          clear HW
          rcases HW2.out with ⟨h31, h32, h33, h34, rfl⟩ | ⟨h31, h32, h33, h34, h35⟩ | ⟨h31, h32, h33, h34, h35, h36, h37⟩
          all_goals
            clear HW2
            go_wp2_with (first
              | (refine wpList_load_has ?_ 203 (.tmp 3) ?_ G1 ?_ _ (valCells t) _ HV4.out Tryz.underlying203 ?_ HI.out ?_; rfl; rfl; rfl; rfl)
              | fail)
            go_loopw [7, 8, 73] (fun _ _ i wr => ∃ k : Nat, k ≤ 11 ∧ i = .int .i64 k ∧ Hid (scan (Ty.fc2 t.kind t.val) (11 - k) k = r4) ∧ Hid (Has wr G2 (spanCells t.kind) 207) ∧ Hid (Below G w wr)) (fun _ _ i _ => 11 - (intOf i).toNat)
            case atStart => exact ⟨0, Nat.zero_le _, rfl, HS4, HS, HB⟩
            case round =>
              clear HS4 HS HB
              obtain ⟨k2, hk2, rfl, HS4, HS, HB⟩ := hrel
              by_cases hlt : k2 < 11
              · have hix := fun W => val_index t k2 hlt W
                obtain ⟨sc0, sc1⟩ := span_cells t.kind k2 hlt
                have hc0 := (HS.out.cell (k2 * 2)).trans sc0
                have hc1 := (HS.out.cell (k2 * 2 + 1)).trans sc1
                obtain ⟨x, hx⟩ : ∃ x, t.val k2 = x := ⟨_, rfl⟩
                obtain ⟨a, ha⟩ : ∃ x, Ty.lo t.kind k2 = x := ⟨_, rfl⟩
                obtain ⟨z, hz⟩ : ∃ x, Ty.hi t.kind k2 = x := ⟨_, rfl⟩
                rw [hx] at hix
                rw [ha] at hc0
                rw [hz] at hc1
                have HC : Hid (Ty.fc2 t.kind t.val k2 = if ¬ (a = 0 ∧ z = 0) ∧ ¬ (a ≤ x ∧ x ≤ z) then 1 else 0) := Lib.hid (by rw [Ty.fc2, hx, ha, hz])
                have hk0 : (0 : Int) ≤ k2 := by omega
                have hk1 : (k2 : Int) < 11 := by omega
                clear hx ha hz sc0 sc1
                by_cases hb : ¬ (a = 0 ∧ z = 0) ∧ ¬ (a ≤ x ∧ x ≤ z)
                · have HG : Hid (1 = R) := Lib.hid (by
                    have e : r4 = 1 := by rw [← HS4.out, scan_stop _ hlt (by rw [HC.out, if_pos hb]; omega), HC.out, if_pos hb]
                    have := HF4.out
                    rw [e, firstErr_stop (by omega)] at this
                    exact this)
                  obtain ⟨hb0, hb1⟩ := hb
                  have hd : decide (a ≤ x ∧ x ≤ z) = false := by rw [decide_eq_false_iff_not]; exact hb1
                  have hw : a ≠ 0 ∨ (a = 0 ∧ z ≠ 0) := by omega
                  clear HC HS4 HF4 hb0 hb1
                  rcases hw with ha | ⟨rfl, hz⟩
                  · have ha1 : (a == 0) = false := by rw [beq_eq_false_iff_ne]; exact ha
                    go_wp2_with fail
                    go_quiet ((go_at_call 81; exact quiet_left (tywithin_any _ _ _ _)))
                    go_wp2_with fail
                    go_ret
                    exact ⟨ret_i64 HG.out, by rw [HGW.out]; exact below_drewN HB.out _⟩
                  · have hz1 : (z == 0) = false := by rw [beq_eq_false_iff_ne]; exact hz
                    go_wp2_with fail
                    go_quiet ((go_at_call 81; exact quiet_left (tywithin_any _ _ _ _)))
                    go_wp2_with fail
                    go_ret
                    exact ⟨ret_i64 HG.out, by rw [HGW.out]; exact below_drewN HB.out _⟩
                · have HG : Hid (scan (Ty.fc2 t.kind t.val) (11 - (k2 + 1)) (k2 + 1) = r4) := Lib.hid (by rw [← scan_go _ hlt (by rw [HC.out, if_neg hb])]; exact HS4.out)
                  have hw : (a = 0 ∧ z = 0) ∨ (a ≠ 0 ∧ a ≤ x ∧ x ≤ z) ∨ (a = 0 ∧ z ≠ 0 ∧ a ≤ x ∧ x ≤ z) := by omega
                  clear HC HS4 HF4 hb
                  rcases hw with ⟨rfl, rfl⟩ | ⟨ha, hx0, hx1⟩ | ⟨rfl, hz, hx0, hx1⟩
                  · go_wp2_with fail
                    go_quiet ((go_at_call 81; exact quiet_left (tywithin_any _ _ _ _)))
                    go_wp2_with fail
                    go_roundw
                    case rel => exact ⟨k2 + 1, by omega, by go_num, HG, Lib.hid (HS.out.drewN _), Lib.hid (below_drewN HB.out _)⟩
                    case measure => simp [intOf]; omega
                  · have ha1 : (a == 0) = false := by rw [beq_eq_false_iff_ne]; exact ha
                    go_wp2_with fail
                    go_quiet ((go_at_call 81; exact quiet_left (tywithin_any _ _ _ _)))
                    go_wp2_with fail
                    go_roundw
                    case rel => exact ⟨k2 + 1, by omega, by go_num, HG, Lib.hid (HS.out.drewN _), Lib.hid (below_drewN HB.out _)⟩
                    case measure => simp [intOf]; omega
                  · have hz1 : (z == 0) = false := by rw [beq_eq_false_iff_ne]; exact hz
                    go_wp2_with fail
                    go_quiet ((go_at_call 81; exact quiet_left (tywithin_any _ _ _ _)))
                    go_wp2_with fail
                    go_roundw
                    case rel => exact ⟨k2 + 1, by omega, by go_num, HG, Lib.hid (HS.out.drewN _), Lib.hid (below_drewN HB.out _)⟩
                    case measure => simp [intOf]; omega
              · have hk11 : k2 = 11 := by omega
                have hd2 : decide ((k2 : Int) < 11) = false := by simp; omega
                have HG : Hid (0 = R) := Lib.hid (by
                  have e : r4 = 0 := by rw [← HS4.out, hk11]; rfl
                  have := HF4.out
                  rw [e, firstErr_go] at this
                  exact this)
                clear HS4 HF4 hk2 hlt hk11
                go_wp2_with fail
                go_ret
                exact ⟨ret_i64 HG.out, by rw [HGW.out]; exact HB.out⟩
end Go.Proofs.YtbeikfopneeodaaGreat
