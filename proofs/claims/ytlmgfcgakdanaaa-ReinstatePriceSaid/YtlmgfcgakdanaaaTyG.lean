/- The reference's Validate: the same first fault of a treaty. -/
import Derived.Test.YtlmgfcgakdanaaaTyF
import Derived.Deep.DeepCutAuto
import Derived.Deep.CutBlock
namespace Go.Proofs.Ytlmgfcgakdanaaa
open Go.RowKit
set_option linter.unusedVariables false

theorem nums_at {w : World} {B g n j : Nat} {f : Nat → Int} (h : Nums w B (some ⟨g, 0, none⟩) n f) (hj : j < n) : w.cell? ⟨g, j, none⟩ = some (.int .i64 (f j)) := by
  obtain ⟨b, o, e, _, hc⟩ := h.get hj
  simp only [Option.some.injEq, Addr.mk.injEq, and_true] at e
  obtain ⟨rfl, rfl⟩ := e
  rwa [Nat.zero_add] at hc
/-- a pointer to a treaty that is known whole, and its cells -/
def TyAt (w : World) (v : Value) : Prop := ∃ b cs, v = .pointer (some ⟨b, 0, none⟩) ∧ w.heap[b]? = some (.cells cs 27 (0, 0)) ∧ cs.size = 21
def tyCells (w : World) (v : Value) : Array Value := match v with
  | .pointer (some a) => match w.heap[a.block]? with
    | some (.cells cs _ _) => cs
    | _ => #[]
  | _ => #[]
theorem exec_load_ty {ev : Operand → Value} {d : Option Tmp} {x : Operand} {ty : TypeId} {pos : String} {af : Array Edge} {g : Option (Nat × Bool)} {w : World} (h : TyAt w (ev x)) :
    (execOp ev { dst := d, op := .load 27 x, type := ty, pos := pos, after := af, guard := g }).run Try.prog w = .ok (.value (.agg (tyCells w (ev x)))) w := by
  obtain ⟨b, cs, hv, hb, hc⟩ := h
  have e : tyCells w (.pointer (some ⟨b, 0, none⟩)) = cs := by simp [tyCells, hb]
  unfold execOp
  simp only [hv, Instr.loadAt, Instr.sureAddr, Sem.run_bind, Sem.run_pure, Result.andThen_ok, run_loadVar_row w b 27 27 cs (0, 0) _ hb Try.underlying27 rfl (by rw [hc]; exact ty_info), e]
attribute [local go_sem ↓] exec_load_ty
theorem box_load {t : Ty} {w : World} {b : Nat} (h : t.Box w b) : TyAt w (.pointer (some ⟨b, 0, none⟩)) ∧ tyCells w (.pointer (some ⟨b, 0, none⟩)) = t.cells ∧ w.cell? ⟨b, 1, none⟩ = some (.int .i64 t.kind) :=
  ⟨⟨b, t.cells, rfl, h, rfl⟩, by have h' : w.heap[b]? = _ := h; simp only [tyCells, h'], h.cell 1⟩

set_option maxRecDepth 100000 in
set_option maxHeartbeats 8000000 in
theorem rvalidate_any (t : Ty) (w : World) (h : t.In w w.heap.size) : Calls Try.prog 37 #[.agg t.cells] w (IntPost t.err w) := by
  obtain ⟨R, hR⟩ : ∃ R, t.err = R := ⟨_, rfl⟩
  obtain ⟨p3, hp3⟩ : ∃ r, Ty.perP t.pf t.pt = r := ⟨_, rfl⟩
  obtain ⟨e4, he4⟩ : ∃ r, Ty.asc 0 15 t.npe t.fpe = r := ⟨_, rfl⟩
  obtain ⟨e5, he5⟩ : ∃ r, Ty.asc 0 15 t.nar t.far = r := ⟨_, rfl⟩
  obtain ⟨e8, he8⟩ : ∃ r, scan (Ty.rc t.fre) t.nre 0 = r := ⟨_, rfl⟩
  obtain ⟨e10, he10⟩ : ∃ r, Ty.asc 1 1048576 t.nin t.fin = r := ⟨_, rfl⟩
  obtain ⟨p11, hp11⟩ : ∃ r, Ty.hasB t.fin t.nin t.id = r := ⟨_, rfl⟩
  obtain ⟨e12, he12⟩ : ∃ r, Ty.perr t.npa t.fpa t.gpa = r := ⟨_, rfl⟩
  have HF : Hid (firstErr [if 1 ≤ t.id ∧ t.id ≤ 1048576 then 0 else 1, if 1 ≤ t.kind ∧ t.kind ≤ 6 then 0 else 11, if p3 = true then 0 else 12, e4, e5, t.ferr, if 8 < t.nre then 4 else 0, e8, if 12 < t.nin then 4 else 0, e10, if p11 = true then 10 else 0, e12] = R) :=
    Lib.hid (by rw [← hp3, ← he4, ← he5, ← he8, ← he10, ← hp11, ← he12, ← hR]; rfl)
  obtain ⟨s1, hs1⟩ : ∃ r, scan (Ty.rc1 t.kind t.val) 10 0 = r := ⟨_, rfl⟩
  obtain ⟨s2, hs2⟩ : ∃ r, scan (Ty.rc2 t.kind t.val) 10 0 = r := ⟨_, rfl⟩
  have HS1 : Hid (scan (Ty.rc1 t.kind t.val) (10 - 0) 0 = s1) := Lib.hid hs1
  have HS2 : Hid (scan (Ty.rc2 t.kind t.val) (10 - 0) 0 = s2) := Lib.hid hs2
  have HS8 : Hid (scan (Ty.rc t.fre) (t.nre - 0) 0 = e8) := Lib.hid he8
  have C3 : Hid (∀ W, Calls Try.prog 53 #[.agg #[.int .i64 t.pf, .int .i64 t.pt]] W (BoolPost p3 W)) := Lib.hid fun W => by rw [← hp3]; exact rperiod_any _ _ W
  have C4 : Hid (∀ W, t.In W W.heap.size → Calls Try.prog 54 #[.slice t.Ape t.npe t.cpe, .int .i64 0, .int .i64 15] W (IntPost e4 W)) := Lib.hid fun W hW => by rw [← he4]; exact rasc_any _ _ _ _ _ _ W hW.lpe hW.pe
  have C5 : Hid (∀ W, t.In W W.heap.size → Calls Try.prog 54 #[.slice t.Aar t.nar t.car, .int .i64 0, .int .i64 15] W (IntPost e5 W)) := Lib.hid fun W hW => by rw [← he5]; exact rasc_any _ _ _ _ _ _ W hW.lar hW.ar
  have C10 : Hid (∀ W, t.In W W.heap.size → Calls Try.prog 54 #[.slice t.Ain t.nin t.cin, .int .i64 1, .int .i64 1048576] W (IntPost e10 W)) := Lib.hid fun W hW => by rw [← he10]; exact rasc_any _ _ _ _ _ _ W hW.lin hW.inu
  have C11 : Hid (∀ W, t.In W W.heap.size → Calls Try.prog 57 #[.slice t.Ain t.nin t.cin, .int .i64 t.id] W (BoolPost p11 W)) := Lib.hid fun W hW => by rw [← hp11]; exact rholds_any _ _ _ _ _ W hW.lin hW.inu
  have C12 : Hid (∀ W, t.In W W.heap.size → Calls Try.prog 58 #[.slice t.Apa t.npa t.cpa] W (IntPost e12 W)) := Lib.hid fun W hW => by rw [← he12]; exact rparts_any _ _ _ _ _ W hW.lpa hW.pa
  have HI := Lib.hid ty_info
  have HT := Lib.hid h
  rw [hR]
  clear hR hp3 he4 he5 he8 he10 hp11 he12 h hs1 hs2
  go_enter Try.func37, Try.ntmps37
  go_upto_region 1 with (fail)
  have hx : t.Box (w.alloc (.cells t.cells 27)) w.heap.size := Has.new _ _ _
  have hb1 : Below w.heap.size w (w.alloc (.cells t.cells 27)) := (Below.refl _ _).alloc (Nat.le_refl _) _
  obtain ⟨w1, hw1⟩ : ∃ w1, w.alloc (.cells t.cells 27) = w1 := ⟨_, rfl⟩
  rw [hw1] at hx hb1 ⊢
  clear hw1
  have HX := Lib.hid hx
  have HB := Lib.hid hb1
  obtain ⟨G, hG⟩ : ∃ G, w.heap.size = G := ⟨_, rfl⟩
  rw [hG] at HX HB hx HT ⊢
  obtain ⟨x0, x1, x2, x3, x4, x5, x6, x7, x8, x9, x10, x11, x12, x13, x14, x15, x16, x17, x18, x19, x20, bl⟩ := Ty.rules hx
  have HGW := Lib.hid hG
  clear hx hb1 hG x6 x7 x8 x9 x10 x11 x12 x13 x14 x15 x17 x18
  by_cases hq : 1 ≤ t.id ∧ t.id ≤ 1048576
  rotate_left
  · have HG : Hid (1 = R) := Lib.hid (by
      have := HF.out
      rw [if_neg hq, firstErr_stop (by omega)] at this
      exact this)
    have hq2 : t.id < 1 ∨ (1 ≤ t.id ∧ 1048576 < t.id) := by omega
    clear HF hq
    rcases hq2 with hq | ⟨hq, hq2⟩
    · have hd : decide (t.id < 1) = true := by rw [decide_eq_true_iff]; exact hq
      clear hq
      go_wp2_with fail
      go_ret
      exact ⟨ret_i64 HG.out, by rw [HGW.out]; exact HB.out⟩
    · have hd : decide (t.id < 1) = false := by rw [decide_eq_false_iff_not]; omega
      have hd2 : decide (1048576 < t.id) = true := by rw [decide_eq_true_iff]; exact hq2
      clear hq hq2
      go_wp2_with fail
      go_ret
      exact ⟨ret_i64 HG.out, by rw [HGW.out]; exact HB.out⟩
  replace HF := Lib.hid (firstErr_next HF.out (if_pos hq))
  have hda : decide (t.id < 1) = false := by rw [decide_eq_false_iff_not]; omega
  have hua : decide (1048576 < t.id) = false := by rw [decide_eq_false_iff_not]; omega
  clear hq
  by_cases hq : 1 ≤ t.kind ∧ t.kind ≤ 6
  rotate_left
  · have HG : Hid (11 = R) := Lib.hid (by
      have := HF.out
      rw [if_neg hq, firstErr_stop (by omega)] at this
      exact this)
    have hq2 : t.kind < 1 ∨ (1 ≤ t.kind ∧ 6 < t.kind) := by omega
    clear HF hq
    rcases hq2 with hq | ⟨hq, hq2⟩
    · have hd : decide (t.kind < 1) = true := by rw [decide_eq_true_iff]; exact hq
      clear hq
      go_wp2_with fail
      go_ret
      exact ⟨ret_i64 HG.out, by rw [HGW.out]; exact HB.out⟩
    · have hd : decide (t.kind < 1) = false := by rw [decide_eq_false_iff_not]; omega
      have hd2 : decide (6 < t.kind) = true := by rw [decide_eq_true_iff]; exact hq2
      clear hq hq2
      go_wp2_with fail
      go_ret
      exact ⟨ret_i64 HG.out, by rw [HGW.out]; exact HB.out⟩
  replace HF := Lib.hid (firstErr_next HF.out (if_pos hq))
  have hdb : decide (t.kind < 1) = false := by rw [decide_eq_false_iff_not]; omega
  have hub : decide (6 < t.kind) = false := by rw [decide_eq_false_iff_not]; omega
  obtain ⟨hk0, hk1⟩ := hq
  go_wp2_with fail
  refine (C3.out _).mono ?_
  rintro e w2 ⟨rfl, hb⟩
  have hs1 := HX.out.lt
  replace HX : Hid (t.Box w2 G) := Lib.hid (HX.out.below hb hs1)
  replace HB : Hid (Below G w w2) := Lib.hid (HB.out.trans (hb.mono (Nat.le_of_lt hs1)))
  have hs2 := HX.out.lt
  clear hb hs1 x0 x1 x2 x3 x4 x5 x16 x19 x20
  have x0 : w2.cell? ⟨G, 0, none⟩ = some (.int .i64 t.id) := HX.out.cell 0
  have x1 : w2.cell? ⟨G, 1, none⟩ = some (.int .i64 t.kind) := HX.out.cell 1
  have x4 : w2.cell? ⟨G, 4, none⟩ = some (.slice t.Ape t.npe t.cpe) := HX.out.cell 4
  have x5 : w2.cell? ⟨G, 5, none⟩ = some (.slice t.Aar t.nar t.car) := HX.out.cell 5
  have x15 : w2.cell? ⟨G, 15, none⟩ = some (.int .i64 t.prem) := HX.out.cell 15
  have x16 : w2.cell? ⟨G, 16, none⟩ = some (.slice t.Are t.nre t.cre) := HX.out.cell 16
  have x17 : w2.cell? ⟨G, 17, none⟩ = some (.bool t.timed) := HX.out.cell 17
  have x19 : w2.cell? ⟨G, 19, none⟩ = some (.slice t.Ain t.nin t.cin) := HX.out.cell 19
  have x20 : w2.cell? ⟨G, 20, none⟩ = some (.slice t.Apa t.npa t.cpa) := HX.out.cell 20
  clear hda hua hdb hub C3
  by_cases hq : p3 = true
  rotate_left
  · have HG : Hid (12 = R) := Lib.hid (by
      have := HF.out
      rw [if_neg hq, firstErr_stop (by omega)] at this
      exact this)
    obtain rfl : p3 = false := by simpa using hq
    clear HF hq
    go_wp2_with fail
    go_ret
    exact ⟨ret_i64 HG.out, by rw [HGW.out]; exact HB.out⟩
  replace HF := Lib.hid (firstErr_next HF.out (if_pos hq))
  obtain rfl := hq
  have hq : True := trivial
  clear hq
  go_wp2_with fail
  refine (C4.out _ (HT.out.later HB.out (Nat.le_of_lt hs2))).mono ?_
  rintro e w3 ⟨rfl, hb⟩
  have hs2 := HX.out.lt
  replace HX : Hid (t.Box w3 G) := Lib.hid (HX.out.below hb hs2)
  replace HB : Hid (Below G w w3) := Lib.hid (HB.out.trans (hb.mono (Nat.le_of_lt hs2)))
  have hs3 := HX.out.lt
  clear hb hs2 x0 x1 x4 x5 x15 x16 x17 x19 x20
  have x0 : w3.cell? ⟨G, 0, none⟩ = some (.int .i64 t.id) := HX.out.cell 0
  have x1 : w3.cell? ⟨G, 1, none⟩ = some (.int .i64 t.kind) := HX.out.cell 1
  have x5 : w3.cell? ⟨G, 5, none⟩ = some (.slice t.Aar t.nar t.car) := HX.out.cell 5
  have x15 : w3.cell? ⟨G, 15, none⟩ = some (.int .i64 t.prem) := HX.out.cell 15
  have x16 : w3.cell? ⟨G, 16, none⟩ = some (.slice t.Are t.nre t.cre) := HX.out.cell 16
  have x17 : w3.cell? ⟨G, 17, none⟩ = some (.bool t.timed) := HX.out.cell 17
  have x19 : w3.cell? ⟨G, 19, none⟩ = some (.slice t.Ain t.nin t.cin) := HX.out.cell 19
  have x20 : w3.cell? ⟨G, 20, none⟩ = some (.slice t.Apa t.npa t.cpa) := HX.out.cell 20
  clear C4
  by_cases hq : e4 = 0
  rotate_left
  · have HG : Hid (e4 = R) := Lib.hid (by
      have := HF.out
      rw [firstErr_stop hq] at this
      exact this)
    have hq1 : (e4 == 0) = false := by rw [beq_eq_false_iff_ne]; exact hq
    have hq2 : (e4 != 0) = true := by simp [hq]
    clear HF
    go_wp2_with fail
    go_ret
    exact ⟨ret_i64 HG.out, by rw [HGW.out]; exact HB.out⟩
  subst hq
  replace HF := Lib.hid (firstErr_next HF.out rfl)
  go_wp2_with fail
  refine (C5.out _ (HT.out.later HB.out (Nat.le_of_lt hs3))).mono ?_
  rintro e w4 ⟨rfl, hb⟩
  have hs3 := HX.out.lt
  replace HX : Hid (t.Box w4 G) := Lib.hid (HX.out.below hb hs3)
  replace HB : Hid (Below G w w4) := Lib.hid (HB.out.trans (hb.mono (Nat.le_of_lt hs3)))
  have hs4 := HX.out.lt
  clear hb hs3 x0 x1 x5 x15 x16 x17 x19 x20
  have x0 : w4.cell? ⟨G, 0, none⟩ = some (.int .i64 t.id) := HX.out.cell 0
  have x1 : w4.cell? ⟨G, 1, none⟩ = some (.int .i64 t.kind) := HX.out.cell 1
  have x15 : w4.cell? ⟨G, 15, none⟩ = some (.int .i64 t.prem) := HX.out.cell 15
  have x16 : w4.cell? ⟨G, 16, none⟩ = some (.slice t.Are t.nre t.cre) := HX.out.cell 16
  have x17 : w4.cell? ⟨G, 17, none⟩ = some (.bool t.timed) := HX.out.cell 17
  have x19 : w4.cell? ⟨G, 19, none⟩ = some (.slice t.Ain t.nin t.cin) := HX.out.cell 19
  have x20 : w4.cell? ⟨G, 20, none⟩ = some (.slice t.Apa t.npa t.cpa) := HX.out.cell 20
  clear C5
  by_cases hq : e5 = 0
  rotate_left
  · have HG : Hid (e5 = R) := Lib.hid (by
      have := HF.out
      rw [firstErr_stop hq] at this
      exact this)
    have hq1 : (e5 == 0) = false := by rw [beq_eq_false_iff_ne]; exact hq
    have hq2 : (e5 != 0) = true := by simp [hq]
    clear HF
    go_wp2_with fail
    go_ret
    exact ⟨ret_i64 HG.out, by rw [HGW.out]; exact HB.out⟩
  subst hq
  replace HF := Lib.hid (firstErr_next HF.out rfl)
  have hff := (Ty.ferr_ref hk0 hk1 _).symm.trans HF.out
  rw [show scan (Ty.rc1 t.kind t.val) 10 0 = s1 from HS1.out, show scan (Ty.rc2 t.kind t.val) 10 0 = s2 from HS2.out] at hff
  replace HF := Lib.hid hff
  clear hff
  go_upto_region 13 with (fail)
  go_region_held3 (fun w' => TyAt w' (.pointer (some ⟨G, 0, none⟩)) ∧ tyCells w' (.pointer (some ⟨G, 0, none⟩)) = t.cells ∧ w'.cell? ⟨G, 1, none⟩ = some (.int .i64 t.kind)) (exact box_load HX.out) (first
    | (go_at_call 55; refine (numbers_any t _).mono ?_; rintro e wa ⟨ga, rfl, hna, hba⟩; have hsa := HX.out.lt; replace HX : Hid (t.Box wa G) := Lib.hid (HX.out.drew.below hba hsa); replace HB : Hid (Below G w wa) := Lib.hid (HB.out.drew.trans (hba.mono (Nat.le_of_lt hsa))); have HNA := Lib.hid hna; clear hba hsa hna)
    | (go_at_call 56; refine (least_any t.kind _ hk0 hk1).mono ?_; rintro e wb ⟨gb, rfl, hnb, hbb⟩; have hsb := HX.out.lt; replace HX : Hid (t.Box wb G) := Lib.hid (HX.out.below hbb hsb); replace HB : Hid (Below G w wb) := Lib.hid (HB.out.trans (hbb.mono (Nat.le_of_lt hsb))); replace HNA : Hid (Nums wb wb.heap.size (some ⟨ga, 0, none⟩) 10 t.val) := Lib.hid ((HNA.out.below hbb).mono hbb.size); have HNB := Lib.hid hnb; clear hbb hsb hnb))
  go_upto_region 15 with (fail)
  have hbl := HX.out.lt
  have hnm : Nums (wb.alloc (.cells #[.int .i64 1048576, .int .i64 1000000, .int .i64 1073741824, .int .i64 100, .int .i64 1073741824, .int .i64 1073741824, .int .i64 8784, .int .i64 1073741824, .int .i64 1073741824, .int .i64 1000000000] 3)) (wb.alloc (.cells #[.int .i64 1048576, .int .i64 1000000, .int .i64 1073741824, .int .i64 100, .int .i64 1073741824, .int .i64 1073741824, .int .i64 8784, .int .i64 1073741824, .int .i64 1073741824, .int .i64 1000000000] 3)).heap.size (some ⟨wb.heap.size, 0, none⟩) 10 Ty.rhi :=
    nums_of_has (Has.new wb _ _) (lt10 ⟨rfl, rfl, rfl, rfl, rfl, rfl, rfl, rfl, rfl, rfl⟩)
  have hbc : Below wb.heap.size wb (wb.alloc (.cells #[.int .i64 1048576, .int .i64 1000000, .int .i64 1073741824, .int .i64 100, .int .i64 1073741824, .int .i64 1073741824, .int .i64 8784, .int .i64 1073741824, .int .i64 1073741824, .int .i64 1000000000] 3)) := (Below.refl _ _).alloc (Nat.le_refl _) _
  obtain ⟨wd, hwd⟩ : ∃ wd, wb.alloc (.cells #[.int .i64 1048576, .int .i64 1000000, .int .i64 1073741824, .int .i64 100, .int .i64 1073741824, .int .i64 1073741824, .int .i64 8784, .int .i64 1073741824, .int .i64 1073741824, .int .i64 1000000000] 3) = wd := ⟨_, rfl⟩
  rw [hwd] at hnm hbc ⊢
  replace HX : Hid (t.Box wd G) := Lib.hid (HX.out.below hbc hbl)
  replace HB : Hid (Below G w wd) := Lib.hid (HB.out.trans (hbc.mono (Nat.le_of_lt hbl)))
  have HNA2 : Hid (Nums wd wd.heap.size (some ⟨ga, 0, none⟩) 10 t.val) := Lib.hid ((HNA.out.below hbc).mono hbc.size)
  have HNB2 : Hid (Nums wd wd.heap.size (some ⟨gb, 0, none⟩) 10 (Ty.rlo t.kind)) := Lib.hid ((HNB.out.below hbc).mono hbc.size)
  obtain ⟨gm, hgm⟩ : ∃ g, wb.heap.size = g := ⟨_, rfl⟩
  rw [hgm] at hnm ⊢
  have HNM := Lib.hid hnm
  clear hwd hnm hbc hgm HNA HNB hbl
  go_wp2_with fail
  go_loop [8] (fun i => ∃ k : Nat, k ≤ 10 ∧ i = .int .i64 k ∧ Hid (scan (Ty.rc1 t.kind t.val) (10 - k) k = s1)) (fun i => 10 - (intOf i).toNat)
  case atStart => exact ⟨0, Nat.zero_le _, rfl, HS1⟩
  case round =>
    clear HS1
    obtain ⟨k, hk, rfl, HS1⟩ := hrel
    by_cases hlt : k < 10
    · have hc0 := nums_at HNA2.out hlt
      have hc1 := nums_at HNB2.out hlt
      obtain ⟨y, hy⟩ : ∃ x, t.val k = x := ⟨_, rfl⟩
      obtain ⟨x, hx⟩ : ∃ x, Ty.rlo t.kind k = x := ⟨_, rfl⟩
      rw [hy] at hc0
      rw [hx] at hc1
      have HC : Hid (Ty.rc1 t.kind t.val k = if x < 0 ∧ y ≠ 0 then 20 else 0) := Lib.hid (by rw [Ty.rc1, hx, hy])
      have hk0 : (0 : Int) ≤ k := by omega
      have hk1 : (k : Int) < 10 := by omega
      have hd : decide ((k : Int) < 10) = true := by rw [decide_eq_true_iff]; exact hk1
      clear hx hy
      by_cases hb : x < 0 ∧ y ≠ 0
      · have HG : Hid (20 = R) := Lib.hid (by
          have e : s1 = 20 := by rw [← HS1.out, scan_stop _ hlt (by rw [HC.out, if_pos hb]; omega), HC.out, if_pos hb]
          have := HF.out
          rw [e, firstErr_stop (by omega)] at this
          exact this)
        obtain ⟨hb0, hb1⟩ := hb
        have hd0 : decide (x < 0) = true := by rw [decide_eq_true_iff]; exact hb0
        have hd1 : (y != 0) = true := by simp [hb1]
        have hd2 : (y == 0) = false := by simp [hb1]
        clear HC HS1 HF hb0
        go_wp2_with fail
        go_ret
        exact ⟨ret_i64 HG.out, by rw [HGW.out]; exact HB.out⟩
      · have HG : Hid (scan (Ty.rc1 t.kind t.val) (10 - (k + 1)) (k + 1) = s1) := Lib.hid (by rw [← scan_go _ hlt (by rw [HC.out, if_neg hb])]; exact HS1.out)
        have hw : 0 ≤ x ∨ (x < 0 ∧ y = 0) := by omega
        clear HC HS1 HF hb
        rcases hw with hx | ⟨hx, rfl⟩
        · have hd0 : decide (x < 0) = false := by rw [decide_eq_false_iff_not]; omega
          go_wp2_with fail
          go_round
          case rel => exact ⟨k + 1, by omega, by go_num, HG⟩
          case measure => simp [intOf]; omega
        · have hd0 : decide (x < 0) = true := by rw [decide_eq_true_iff]; exact hx
          go_wp2_with fail
          go_round
          case rel => exact ⟨k + 1, by omega, by go_num, HG⟩
          case measure => simp [intOf]; omega
    · have hk10 : k = 10 := by omega
      have hd : decide ((k : Int) < 10) = false := by rw [decide_eq_false_iff_not]; omega
      replace HF := Lib.hid (firstErr_next HF.out (by rw [← HS1.out, hk10]; rfl))
      clear HS1 hk hlt hk10
      go_upto_region 20 with (fail)
      have x1 := HX.out.cell 1
      simp only [Ty.cells] at x1
      go_cut [9] (fun v wx => v = .bool (decide (t.kind = 4 ∨ t.kind = 5)) ∧ wd = wx)
      case first =>
        by_cases k4 : t.kind = 4
        · have k41 : (t.kind == 4) = true := by rw [beq_iff_eq]; exact k4
          have HK : Hid (decide (t.kind = 4 ∨ t.kind = 5) = true) := Lib.hid (by rw [decide_eq_true_iff]; exact .inl k4)
          clear k4
          go_wp2_with fail
          go_meet
          case rel => exact ⟨by rw [HK.out], rfl⟩
        · have k41 : (t.kind == 4) = false := by rw [beq_eq_false_iff_ne]; exact k4
          by_cases k5 : t.kind = 5
          · have k51 : (t.kind == 5) = true := by rw [beq_iff_eq]; exact k5
            have HK : Hid (decide (t.kind = 4 ∨ t.kind = 5) = true) := Lib.hid (by rw [decide_eq_true_iff]; exact .inr k5)
            clear k4 k5
            go_wp2_with fail
            go_meet
            case rel => exact ⟨by rw [HK.out], rfl⟩
          · have k51 : (t.kind == 5) = false := by rw [beq_eq_false_iff_ne]; exact k5
            have HK : Hid (decide (t.kind = 4 ∨ t.kind = 5) = false) := Lib.hid (by rw [decide_eq_false_iff_not]; omega)
            clear k4 k5
            go_wp2_with fail
            go_meet
            case rel => exact ⟨by rw [HK.out], rfl⟩
      case rest =>
        obtain ⟨rfl, rfl⟩ := hcut
        obtain ⟨rb, hrb⟩ : ∃ b, decide (t.kind = 4 ∨ t.kind = 5) = b := ⟨_, rfl⟩
        rw [hrb]
        have HRB := Lib.hid hrb
        have x16 := HX.out.cell 16
        have x17 := HX.out.cell 17
        simp only [Ty.cells] at x16 x17
        obtain ⟨nre, hnre⟩ : ∃ n, t.nre = n := ⟨_, rfl⟩
        obtain ⟨tm, htm⟩ : ∃ n, t.timed = n := ⟨_, rfl⟩
        rw [hnre] at x16 HF HS8
        rw [htm] at x17 HF
        have HNR := Lib.hid hnre
        clear hrb hnre htm x1
        have HE : Hid ((¬ (t.kind = 4 ∨ t.kind = 5) ∧ 0 < nre ∨ tm = true ∧ nre = 0) ↔ (rb = false ∧ 0 < nre ∨ tm = true ∧ nre = 0)) := Lib.hid (by rw [← HRB.out]; simp)
        go_upto_region 21 with (fail)
        go_cut [97] (fun v wx => v = .bool (decide (rb = false ∧ 0 < nre ∨ tm = true ∧ nre = 0)) ∧ wd = wx)
        case first =>
          by_cases hn : 0 < nre
          · have hn1 : decide ((0 : Int) < nre) = true := by rw [decide_eq_true_iff]; omega
            have hn2 : ((nre : Int) == 0) = false := by rw [beq_eq_false_iff_ne]; omega
            have HD : Hid (decide (rb = false ∧ 0 < nre ∨ tm = true ∧ nre = 0) = !rb) := Lib.hid (by cases rb <;> simp <;> omega)
            cases rb <;> cases tm
            all_goals
              go_wp2_with fail
              go_meet
              case rel => exact ⟨by rw [HD.out]; rfl, rfl⟩
          · have hn1 : decide ((0 : Int) < nre) = false := by rw [decide_eq_false_iff_not]; omega
            have hn2 : ((nre : Int) == 0) = true := by rw [beq_iff_eq]; omega
            have hn3 : decide (0 < nre) = false := by rw [decide_eq_false_iff_not]; omega
            have HD : Hid (decide (rb = false ∧ 0 < nre ∨ tm = true ∧ nre = 0) = tm) := Lib.hid (by cases tm <;> simp <;> omega)
            cases rb <;> cases tm
            all_goals
              go_wp2_with fail
              go_meet
              case rel => exact ⟨by rw [HD.out], rfl⟩
        case rest =>
          obtain ⟨rfl, rfl⟩ := hcut
          by_cases hq : rb = false ∧ 0 < nre ∨ tm = true ∧ nre = 0
          · have HG : Hid (20 = R) := Lib.hid (by
              have := HF.out
              rw [if_pos (HE.out.2 hq), firstErr_stop (by omega)] at this
              exact this)
            have hd9 : decide (rb = false ∧ 0 < nre ∨ tm = true ∧ nre = 0) = true := by rw [decide_eq_true_iff]; exact hq
            rw [hd9]
            clear HF hq hd9
            go_wp2_with fail
            go_ret
            exact ⟨ret_i64 HG.out, by rw [HGW.out]; exact HB.out⟩
          replace HF := Lib.hid (firstErr_next HF.out (if_neg fun c => hq (HE.out.1 c)))
          have hd9 : decide (rb = false ∧ 0 < nre ∨ tm = true ∧ nre = 0) = false := by rw [decide_eq_false_iff_not]; exact hq
          rw [hd9]
          clear hq hd9 HE HRB x16 x17
          go_wp2_with fail
          go_loopw [10] (fun i wr => ∃ k : Nat, k ≤ 10 ∧ i = .int .i64 k ∧ Hid (scan (Ty.rc2 t.kind t.val) (10 - k) k = s2) ∧ Hid (t.Box wr G) ∧ Hid (Below G w wr) ∧ Hid (Nums wr wr.heap.size (some ⟨ga, 0, none⟩) 10 t.val) ∧ Hid (Nums wr wr.heap.size (some ⟨gb, 0, none⟩) 10 (Ty.rlo t.kind)) ∧ Hid (Nums wr wr.heap.size (some ⟨gm, 0, none⟩) 10 Ty.rhi)) (fun i _ => 10 - (intOf i).toNat)
          case atStart => exact ⟨0, Nat.zero_le _, rfl, HS2, HX, HB, HNA2, HNB2, HNM⟩
          case round =>
            clear HS2 HX HB HNA2 HNB2 HNM
            obtain ⟨k2, hk, rfl, HS2, HX, HB, HNA2, HNB2, HNM⟩ := hrel
            by_cases hlt : k2 < 10
            · have hc0 := nums_at HNA2.out hlt
              have hc1 := nums_at HNB2.out hlt
              have hc2 := nums_at HNM.out hlt
              obtain ⟨y, hy⟩ : ∃ x, t.val k2 = x := ⟨_, rfl⟩
              obtain ⟨x, hx⟩ : ∃ x, Ty.rlo t.kind k2 = x := ⟨_, rfl⟩
              obtain ⟨m, hm⟩ : ∃ x, Ty.rhi k2 = x := ⟨_, rfl⟩
              rw [hy] at hc0
              rw [hx] at hc1
              rw [hm] at hc2
              have HC : Hid (Ty.rc2 t.kind t.val k2 = if 0 ≤ x ∧ (y < x ∨ m < y) then 1 else 0) := Lib.hid (by rw [Ty.rc2, hx, hy, hm])
              have hk0 : (0 : Int) ≤ k2 := by omega
              have hk1 : (k2 : Int) < 10 := by omega
              have hd : decide ((k2 : Int) < 10) = true := by rw [decide_eq_true_iff]; exact hk1
              clear hx hy hm
              by_cases hb : 0 ≤ x ∧ (y < x ∨ m < y)
              · have HG : Hid (1 = R) := Lib.hid (by
                  have e : s2 = 1 := by rw [← HS2.out, scan_stop _ hlt (by rw [HC.out, if_pos hb]; omega), HC.out, if_pos hb]
                  have := HF.out
                  rw [e, firstErr_stop (by omega)] at this
                  exact this)
                obtain ⟨hb0, hb1⟩ := hb
                have hd0 : decide (0 ≤ x) = true := by rw [decide_eq_true_iff]; exact hb0
                have hw : y < x ∨ (x ≤ y ∧ m < y) := by omega
                clear HC HS2 HF hb1
                rcases hw with hw | ⟨hw, hw2⟩
                · have hd1 : decide (y < x) = true := by rw [decide_eq_true_iff]; exact hw
                  go_wp2_with fail
                  go_quiet (fail)
                  go_wp2_with fail
                  go_ret
                  exact ⟨ret_i64 HG.out, by rw [HGW.out]; exact below_drewN HB.out _⟩
                · have hd1 : decide (y < x) = false := by rw [decide_eq_false_iff_not]; omega
                  have hd2 : decide (m < y) = true := by rw [decide_eq_true_iff]; exact hw2
                  go_wp2_with fail
                  go_quiet (fail)
                  go_wp2_with fail
                  go_ret
                  exact ⟨ret_i64 HG.out, by rw [HGW.out]; exact below_drewN HB.out _⟩
              · have HG : Hid (scan (Ty.rc2 t.kind t.val) (10 - (k2 + 1)) (k2 + 1) = s2) := Lib.hid (by rw [← scan_go _ hlt (by rw [HC.out, if_neg hb])]; exact HS2.out)
                have hw : x < 0 ∨ (0 ≤ x ∧ x ≤ y ∧ y ≤ m) := by omega
                clear HC HS2 HF hb
                rcases hw with hx | ⟨hx, hxy, hym⟩
                · have hd0 : decide (0 ≤ x) = false := by rw [decide_eq_false_iff_not]; omega
                  go_wp2_with fail
                  go_quiet (fail)
                  go_wp2_with fail
                  go_roundw
                  case rel => exact ⟨k2 + 1, by omega, by go_num, HG, Lib.hid (HX.out.drewN _), Lib.hid (below_drewN HB.out _), Lib.hid (HNA2.out.drewN _), Lib.hid (HNB2.out.drewN _), Lib.hid (HNM.out.drewN _)⟩
                  case measure => simp [intOf]; omega
                · have hd0 : decide (0 ≤ x) = true := by rw [decide_eq_true_iff]; exact hx
                  have hd1 : decide (y < x) = false := by rw [decide_eq_false_iff_not]; omega
                  have hd2 : decide (m < y) = false := by rw [decide_eq_false_iff_not]; omega
                  go_wp2_with fail
                  go_quiet (fail)
                  go_wp2_with fail
                  go_roundw
                  case rel => exact ⟨k2 + 1, by omega, by go_num, HG, Lib.hid (HX.out.drewN _), Lib.hid (below_drewN HB.out _), Lib.hid (HNA2.out.drewN _), Lib.hid (HNB2.out.drewN _), Lib.hid (HNM.out.drewN _)⟩
                  case measure => simp [intOf]; omega
            · have hk10 : k2 = 10 := by omega
              have hd : decide ((k2 : Int) < 10) = false := by rw [decide_eq_false_iff_not]; omega
              replace HF := Lib.hid (firstErr_next HF.out (by rw [← HS2.out, hk10]; rfl))
              clear HS2 hk hlt hk10 HNA2 HNB2 HNM
              go_upto_region 28 with (fail)
              have x0 := HX.out.cell 0
              have x15 := HX.out.cell 15
              have x16 := HX.out.cell 16
              have x19 := HX.out.cell 19
              have x20 := HX.out.cell 20
              simp only [Ty.cells] at x0 x15 x16 x19 x20
              rw [HNR.out] at x16
              have hs20 := HX.out.lt
              by_cases hq : 0 ≤ t.prem ∧ t.prem ≤ 1073741824
              rotate_left
              · have HG : Hid (1 = R) := Lib.hid (by
                  have := HF.out
                  rw [if_neg hq, firstErr_stop (by omega)] at this
                  exact this)
                have hq2 : t.prem < 0 ∨ (0 ≤ t.prem ∧ 1073741824 < t.prem) := by omega
                clear HF hq
                rcases hq2 with hq | ⟨hq, hq2⟩
                · have hd : decide (t.prem < 0) = true := by rw [decide_eq_true_iff]; exact hq
                  clear hq
                  go_wp2_with fail
                  go_ret
                  exact ⟨ret_i64 HG.out, by rw [HGW.out]; exact HB.out⟩
                · have hd : decide (t.prem < 0) = false := by rw [decide_eq_false_iff_not]; omega
                  have hd2 : decide (1073741824 < t.prem) = true := by rw [decide_eq_true_iff]; exact hq2
                  clear hq hq2
                  go_wp2_with fail
                  go_ret
                  exact ⟨ret_i64 HG.out, by rw [HGW.out]; exact HB.out⟩
              replace HF := Lib.hid (firstErr_next HF.out (if_pos hq))
              have hdc : decide (t.prem < 0) = false := by rw [decide_eq_false_iff_not]; omega
              have huc : decide (1073741824 < t.prem) = false := by rw [decide_eq_false_iff_not]; omega
              clear hq
              by_cases hq : ¬ (8 < nre)
              rotate_left
              · have HG : Hid (4 = R) := Lib.hid (by
                  have := HF.out
                  rw [if_pos (Classical.not_not.1 hq), firstErr_stop (by omega)] at this
                  exact this)
                have hq9 : 8 < nre := Classical.not_not.1 hq
                have hd : decide ((8 : Int) < nre) = true := by rw [decide_eq_true_iff]; omega
                clear HF hq
                go_wp2_with fail
                go_ret
                exact ⟨ret_i64 HG.out, by rw [HGW.out]; exact HB.out⟩
              replace HF := Lib.hid (firstErr_next HF.out (if_neg hq))
              have hd : decide ((8 : Int) < nre) = false := by rw [decide_eq_false_iff_not]; omega
              have hd8 : nre ≤ 8 := by omega
              have hd9 : decide (8 < nre) = false := by rw [decide_eq_false_iff_not]; omega
              clear hq
              go_wp2_with fail
              go_loop [11] (fun i => ∃ k : Nat, k ≤ nre ∧ i = .int .i64 k ∧ Hid (scan (Ty.rc t.fre) (nre - k) k = e8)) (fun i => nre - (intOf i).toNat)
              case atStart => exact ⟨0, Nat.zero_le _, rfl, HS8⟩
              case round =>
                clear HS8 hd hd9 hdc huc
                obtain ⟨k, hk, rfl, HS8⟩ := hrel
                by_cases hlt : k < nre
                · obtain ⟨b, o, hA, _, hc0⟩ := (HT.out.later HB.out (Nat.le_of_lt hs20)).re.get (j := k) (by rw [HNR.out]; exact hlt)
                  obtain ⟨x, hx⟩ : ∃ x, t.fre k = x := ⟨_, rfl⟩
                  rw [hx] at hc0
                  have HC : Hid (Ty.rc t.fre k = if ¬ (0 ≤ x ∧ x ≤ 2000000) then 1 else 0) := Lib.hid (by rw [Ty.rc, hx])
                  have hk0 : (0 : Int) ≤ k := by omega
                  have hk1 : (k : Int) < nre := by omega
                  rw [hA] at x16
                  clear hx hA
                  by_cases hb : 0 ≤ x ∧ x ≤ 2000000
                  · have HG : Hid (scan (Ty.rc t.fre) (nre - (k + 1)) (k + 1) = e8) := Lib.hid (by rw [← scan_go _ hlt (by rw [HC.out, if_neg (fun c => c hb)])]; exact HS8.out)
                    have hd1 : decide (x < 0) = false := by rw [decide_eq_false_iff_not]; omega
                    have hd2 : decide (2000000 < x) = false := by rw [decide_eq_false_iff_not]; omega
                    clear HC HS8 hb
                    go_wp2_with fail
                    go_round
                    case rel => exact ⟨k + 1, by omega, by go_num, HG⟩
                    case measure => simp [intOf]; omega
                  · have HG : Hid (1 = R) := Lib.hid (by
                      have e : e8 = 1 := by rw [← HS8.out, scan_stop _ hlt (by rw [HC.out, if_pos hb]; omega), HC.out, if_pos hb]
                      have := HF.out
                      rw [e, firstErr_stop (by omega)] at this
                      exact this)
                    have hw : x < 0 ∨ (0 ≤ x ∧ 2000000 < x) := by omega
                    clear HC HS8 hb HF
                    rcases hw with hw | ⟨hw, hw2⟩
                    · have hd1 : decide (x < 0) = true := by rw [decide_eq_true_iff]; exact hw
                      go_wp2_with fail
                      go_ret
                      exact ⟨ret_i64 HG.out, by rw [HGW.out]; exact HB.out⟩
                    · have hd1 : decide (x < 0) = false := by rw [decide_eq_false_iff_not]; omega
                      have hd2 : decide (2000000 < x) = true := by rw [decide_eq_true_iff]; exact hw2
                      go_wp2_with fail
                      go_ret
                      exact ⟨ret_i64 HG.out, by rw [HGW.out]; exact HB.out⟩
                · have hkn : k = nre := by omega
                  replace HF := Lib.hid (firstErr_next HF.out (by rw [← HS8.out, hkn, scan_end]))
                  subst hkn
                  clear HS8 hk hlt hd8
                  by_cases hq : ¬ (12 < t.nin)
                  rotate_left
                  · have HG : Hid (4 = R) := Lib.hid (by
                      have := HF.out
                      rw [if_pos (Classical.not_not.1 hq), firstErr_stop (by omega)] at this
                      exact this)
                    have hq9 : 12 < t.nin := Classical.not_not.1 hq
                    have hd : decide ((12 : Int) < t.nin) = true := by rw [decide_eq_true_iff]; omega
                    clear HF hq
                    go_wp2_with fail
                    go_ret
                    exact ⟨ret_i64 HG.out, by rw [HGW.out]; exact HB.out⟩
                  replace HF := Lib.hid (firstErr_next HF.out (if_neg hq))
                  have hd : decide ((12 : Int) < t.nin) = false := by rw [decide_eq_false_iff_not]; omega
                  have hd9 : decide (12 < t.nin) = false := by rw [decide_eq_false_iff_not]; omega
                  clear hq
                  go_wp2_with fail
                  refine (C10.out _ (HT.out.later HB.out (Nat.le_of_lt hs20))).mono ?_
                  rintro e w21 ⟨rfl, hb⟩
                  have hs20 := HX.out.lt
                  replace HX : Hid (t.Box w21 G) := Lib.hid (HX.out.below hb hs20)
                  replace HB : Hid (Below G w w21) := Lib.hid (HB.out.trans (hb.mono (Nat.le_of_lt hs20)))
                  have hs21 := HX.out.lt
                  clear hb hs20 x0 x15 x16 x19 x20
                  have x0 : w21.cell? ⟨G, 0, none⟩ = some (.int .i64 t.id) := HX.out.cell 0
                  have x19 : w21.cell? ⟨G, 19, none⟩ = some (.slice t.Ain t.nin t.cin) := HX.out.cell 19
                  have x20 : w21.cell? ⟨G, 20, none⟩ = some (.slice t.Apa t.npa t.cpa) := HX.out.cell 20
                  clear C10 hd hd9
                  by_cases hq : e10 = 0
                  rotate_left
                  · have HG : Hid (e10 = R) := Lib.hid (by
                      have := HF.out
                      rw [firstErr_stop hq] at this
                      exact this)
                    have hq1 : (e10 == 0) = false := by rw [beq_eq_false_iff_ne]; exact hq
                    have hq2 : (e10 != 0) = true := by simp [hq]
                    clear HF
                    go_wp2_with fail
                    go_ret
                    exact ⟨ret_i64 HG.out, by rw [HGW.out]; exact HB.out⟩
                  subst hq
                  replace HF := Lib.hid (firstErr_next HF.out rfl)
                  go_wp2_with fail
                  refine (C11.out _ (HT.out.later HB.out (Nat.le_of_lt hs21))).mono ?_
                  rintro e w22 ⟨rfl, hb⟩
                  have hs21 := HX.out.lt
                  replace HX : Hid (t.Box w22 G) := Lib.hid (HX.out.below hb hs21)
                  replace HB : Hid (Below G w w22) := Lib.hid (HB.out.trans (hb.mono (Nat.le_of_lt hs21)))
                  have hs22 := HX.out.lt
                  clear hb hs21 x0 x19 x20
                  have x20 : w22.cell? ⟨G, 20, none⟩ = some (.slice t.Apa t.npa t.cpa) := HX.out.cell 20
                  clear C11
                  by_cases hq : ¬ (p11 = true)
                  rotate_left
                  · have HG : Hid (10 = R) := Lib.hid (by
                      have := HF.out
                      rw [if_pos (Classical.not_not.1 hq), firstErr_stop (by omega)] at this
                      exact this)
                    obtain rfl : p11 = true := Classical.not_not.1 hq
                    clear HF hq
                    go_wp2_with fail
                    go_ret
                    exact ⟨ret_i64 HG.out, by rw [HGW.out]; exact HB.out⟩
                  replace HF := Lib.hid (firstErr_next HF.out (if_neg hq))
                  obtain rfl : p11 = false := by simpa using hq
                  have hq : True := trivial
                  clear hq
                  go_wp2_with fail
                  refine (C12.out _ (HT.out.later HB.out (Nat.le_of_lt hs22))).mono ?_
                  rintro e w23 ⟨rfl, hb⟩
                  have hs22 := HX.out.lt
                  replace HX : Hid (t.Box w23 G) := Lib.hid (HX.out.below hb hs22)
                  replace HB : Hid (Below G w w23) := Lib.hid (HB.out.trans (hb.mono (Nat.le_of_lt hs22)))
                  have hs23 := HX.out.lt
                  clear hb hs22 x20
                  have HG : Hid (e12 = R) := Lib.hid (by have := HF.out; rw [Ty.firstErr_one] at this; exact this)
                  clear HF C12
                  go_wp2_with fail
                  go_ret
                  exact ⟨ret_i64 HG.out, by rw [HGW.out]; exact HB.out⟩
end Go.Proofs.Ytlmgfcgakdanaaa
