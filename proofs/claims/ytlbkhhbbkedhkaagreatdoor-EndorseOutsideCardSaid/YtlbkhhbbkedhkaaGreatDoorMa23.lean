/- Reference 9: expanded. Reference 9: Expanded, backsLarge. -/
import Derived.Test.YtlbkhhbbkedhkaaGreatDoorMa22
namespace Go.Proofs.YtlbkhhbbkedhkaaGreatDoor
open Go.RowKit
set_option linter.unusedVariables false

/-- what the count of an expansion is -/
def ExpP (w : World) (r : Ending) (w' : World) : Prop := (∃ v : Int, r = .returned (.int .i64 v) ∧ 0 ≤ v ∧ v ≤ 2001) ∧ Below w.heap.size w w'

set_option maxRecDepth 100000 in
set_option maxHeartbeats 8000000 in
theorem expanded_node (B : Option Addr) (m d : Nat) (cs : Nat → Cl) (hm : m ≤ 100000) (op : Int) (name : ByteArray) (nw : Nat) (ws : Nat → ByteArray) (lw hg : Int) (na : Nat) (xs : Nat → Ex) (a : EA) (dp : Nat) (w : World) (h : ClsAt w w.heap.size B m cs) (hx : ExAt w w.heap.size (.mk op name nw ws lw hg na xs) a) (hna : na ≤ 300) (hdp : dp ≤ m + 1)
    (hdef : ∀ k, k < m → dp ≤ m → ∀ (a' : EA) (W : World), Below w.heap.size w W → ExAt W W.heap.size (cs k).e a' → Calls Tryz.prog 93 #[.slice B m d, .agg ((cs k).e.cells a'), .int .i64 ((dp + 1 : Nat) : Int)] W (ExpP W))
    (harg : ∀ k, k < na → ∀ (a' : EA) (W : World), Below w.heap.size w W → ExAt W W.heap.size (xs k) a' → Calls Tryz.prog 93 #[.slice B m d, .agg ((xs k).cells a'), .int .i64 dp] W (ExpP W)) :
    Calls Tryz.prog 93 #[.slice B m d, .agg ((Ex.mk op name nw ws lw hg na xs).cells a), .int .i64 dp] w (ExpP w) := by
  obtain ⟨_, P0, hc0, he0⟩ := id h
  have HCL := Lib.hid h
  obtain ⟨_, _, hst, P, hcc, hee⟩ := hx
  have HDF : Hid (∀ k, k < m → dp ≤ m → ∀ W, Below w.heap.size w W → Calls Tryz.prog 93 #[.slice B m d, .agg ((cs k).e.cells (P0 k).ea), .int .i64 ((dp + 1 : Nat) : Int)] W (ExpP W)) := Lib.hid fun k hk hd W hb => hdef k hk hd _ W hb ((he0 k hk).1.below hb hb.size)
  have HAR : Hid (∀ k, k < na → ∀ W, Below w.heap.size w W → Calls Tryz.prog 93 #[.slice B m d, .agg ((xs k).cells (P k)), .int .i64 dp] W (ExpP W)) := Lib.hid fun k hk W hb => harg k hk _ W hb ((hee k hk).below hb hb.size)
  obtain ⟨Aw, cw, Aa, ca⟩ := a
  have HX : Hid (Cells w w.heap.size Aa (na * 6) fun j => (xs (j / 6)).cell (P (j / 6)) (j % 6)) := Lib.hid hcc
  have HXC : Hid (Cells w w.heap.size B (m * 10) fun j => (cs (j / 10)).cell (P0 (j / 10)) (j % 10)) := Lib.hid hc0
  have HXI := Lib.hid ex_info
  clear h hst hcc hee hc0 he0 hdef harg
  unfold Ex.cells Ex.row
  simp only
  obtain ⟨G, hG⟩ : ∃ G, w.heap.size = G := ⟨_, rfl⟩
  have HGE := Lib.hid hG
  have hw1 : IntKind.i64.wrap ((dp : Int) + 1) = ((dp + 1 : Nat) : Int) := by rw [IntKind.wrap_i64]; omega
  go_enter Tryz.func93, Tryz.ntmps93
  go_upto_region 1 with (fail)
  have HB : Hid (Below w.heap.size w (w.alloc (.cells #[.int .i64 op, .string name, .slice Aw nw cw, .int .i64 lw, .int .i64 hg, .slice Aa na ca] 43))) := Lib.hid ((Below.refl _ _).alloc (Nat.le_refl _) _)
  have HF := Lib.hid (Has.new w #[.int .i64 op, .string name, .slice Aw nw cw, .int .i64 lw, .int .i64 hg, .slice Aa na ca] 43)
  obtain ⟨W, hW⟩ : ∃ W, w.alloc (.cells #[.int .i64 op, .string name, .slice Aw nw cw, .int .i64 lw, .int .i64 hg, .slice Aa na ca] 43) = W := ⟨_, rfl⟩
  rw [hW] at HB HF ⊢
  rw [hG] at HF
  try rw [hG]
  clear hW hG
  have hGw : w.heap.size = G := HGE.out
  obtain ⟨f0, f1, f2⟩ := HF.out.rules
  by_cases hdm : m < dp
  · have hdm' : (m : Int) < dp := by omega
    go_wp2_with fail
    go_ret
    exact ⟨⟨2001, rfl, by omega, by omega⟩, HB.out⟩
  · have hdm' : ¬ (m : Int) < dp := by omega
    by_cases h3 : op = 3
    · subst h3
      go_wp2_with fail
      refine (definition_any B d m cs name W (HCL.out.below HB.out HB.out.size) hm).mono ?_
      rintro r w2 ⟨⟨k2, v2, rfl, hk2⟩, rfl⟩
      cases v2 with
      | false =>
        go_wp2_with fail
        go_loopw [11, 12] (fun nx i wr => ∃ (k : Nat) (nv : Int), k ≤ na ∧ i = .int .i64 k ∧ nx = .int .i64 nv ∧ (0 ≤ nv ∧ nv ≤ 4001) ∧ Hid (Has wr G #[.int .i64 3, .string name, .slice Aw nw cw, .int .i64 lw, .int .i64 hg, .slice Aa na ca] 43) ∧ Hid (Below w.heap.size w wr)) (fun _ i _ => na - (intOf i).toNat)
        case atStart => exact ⟨0, 1, Nat.zero_le _, rfl, rfl, by omega, HF, HB⟩
        case round =>
          clear HF HB f0 f1 f2
          obtain ⟨k, nv, hk, rfl, rfl, hnv, HF, HB⟩ := hrel
          obtain ⟨f0, f1, f2⟩ := HF.out.rules
          by_cases hlt : k < na
          · have hk0 : (0 : Int) ≤ k := by omega
            have hk1 : (k : Int) < na := by omega
            by_cases hn2 : nv ≤ 2000
            · obtain ⟨bb, o, hAa, hbb, hcc⟩ := part_at (f := fun i j => (xs i).cell (P i) j) HX.out hlt (by omega)
              subst hAa
              have hnum : IntKind.i64.wrap ((k : Int) + 1) = ((k + 1 : Nat) : Int) := by rw [IntKind.wrap_i64]; omega
              have HC7 := Lib.hid (HAR.out k hlt _ HB.out)
              have hrg : wr.rangeAt bb (o + k * 6) ((xs k).cells (P k)).toList := Ex.range fun j hj => by rw [HB.out.cell (p := ⟨bb, o + k * 6 + j, none⟩) hbb]; exact hcc j hj
              obtain ⟨y0, y1, y2, y3, y4, y5, hyy⟩ : ∃ y0 y1 y2 y3 y4 y5, (xs k).cells (P k) = #[y0, y1, y2, y3, y4, y5] := ⟨_, _, _, _, _, _, (Ex.cells_is _ _).symm⟩
              rw [hyy] at HC7 hrg
              have HRG := Lib.hid hrg
              clear hyy hrg hcc
              go_wp2_with (refine wpList_load_mid ?_ 43 (.tmp 76) ?_ bb (o + k * 6) ?_ _ _ HRG.out Tryz.underlying43 ?_ HXI.out ?_; rfl; rfl; rfl; rfl)
              refine HC7.out.mono ?_
              rintro r w8 ⟨⟨v8, rfl, v80, v81⟩, hb8⟩
              have HF8 := Lib.hid (HF.out.below hb8 f2)
              have HB8 := Lib.hid (HB.out.trans (hb8.mono HB.out.size))
              have hws : IntKind.i64.wrap (nv + v8) = nv + v8 := by rw [IntKind.wrap_i64]; omega
              clear HF HB f0 f1 f2 hb8 HC7 HRG
              go_wp2_with fail
              go_roundw
              case rel => exact ⟨k + 1, nv + v8, by omega, by go_num, rfl, by omega, HF8, HB8⟩
              case measure => simp [intOf]; omega
            · go_wp2_with fail
              go_ret
              exact ⟨⟨_, rfl, by omega, by omega⟩, HB.out⟩
          · have hkn : k = na := by omega
            subst hkn
            have hdd : decide ((k : Int) < k) = false := by rw [decide_eq_false_iff_not]; omega
            go_wp2_with fail
            go_ret
            exact ⟨⟨_, rfl, by omega, by omega⟩, HB.out⟩
      | true =>
        have hk2m := hk2 rfl
        obtain ⟨bb, o, hBa, hbb, hcc⟩ := part_at (f := fun i j => (cs i).cell (P0 i) j) HXC.out hk2m (by omega)
        subst hBa
        have hk0 : (0 : Int) ≤ k2 := by omega
        have hk1 : (k2 : Int) < m := by omega
        have HC5 := Lib.hid (HDF.out k2 hk2m (by omega) _ HB.out)
        have hrg : W.rangeAt bb (o + k2 * 10 + 2) ((cs k2).e.cells (P0 k2).ea).toList := Ex.range fun j hj => by
          rw [HB.out.cell (p := ⟨bb, o + k2 * 10 + 2 + j, none⟩) hbb, Nat.add_assoc (o + k2 * 10), hcc (2 + j) (by omega)]
          match j, hj with
          | 0, _ | 1, _ | 2, _ | 3, _ | 4, _ | 5, _ => rfl
          | j + 6, hj => omega
        obtain ⟨y0, y1, y2, y3, y4, y5, hyy⟩ : ∃ y0 y1 y2 y3 y4 y5, (cs k2).e.cells (P0 k2).ea = #[y0, y1, y2, y3, y4, y5] := ⟨_, _, _, _, _, _, (Ex.cells_is _ _).symm⟩
        rw [hyy] at HC5 hrg
        have HRG := Lib.hid hrg
        clear hyy hrg hcc
        go_wp2_with (refine wpList_load_mid ?_ 43 (.tmp 32) ?_ bb (o + k2 * 10 + 2) ?_ _ _ HRG.out Tryz.underlying43 ?_ HXI.out ?_; rfl; rfl; rfl; rfl)
        refine HC5.out.mono ?_
        rintro r w5 ⟨⟨v5, rfl, v50, v51⟩, hb5⟩
        replace HF := Lib.hid (HF.out.below hb5 f2)
        replace HB := Lib.hid (HB.out.trans (hb5.mono HB.out.size))
        clear f0 f1 f2 hb5 HC5 HRG
        obtain ⟨f0, f1, f2⟩ := HF.out.rules
        go_wp2_with fail
        go_loopw [9, 10] (fun nx i wr => ∃ (k : Nat) (nv : Int), k ≤ na ∧ i = .int .i64 k ∧ nx = .int .i64 nv ∧ (0 ≤ nv ∧ nv ≤ 4001) ∧ Hid (Has wr G #[.int .i64 3, .string name, .slice Aw nw cw, .int .i64 lw, .int .i64 hg, .slice Aa na ca] 43) ∧ Hid (Below w.heap.size w wr)) (fun _ i _ => na - (intOf i).toNat)
        case atStart => exact ⟨0, v5, Nat.zero_le _, rfl, rfl, by omega, HF, HB⟩
        case round =>
          clear HF HB f0 f1 f2
          obtain ⟨k, nv, hk, rfl, rfl, hnv, HF, HB⟩ := hrel
          obtain ⟨f0, f1, f2⟩ := HF.out.rules
          by_cases hlt : k < na
          · have hk0 : (0 : Int) ≤ k := by omega
            have hk1 : (k : Int) < na := by omega
            by_cases hn2 : nv ≤ 2000
            · obtain ⟨bb, o, hAa, hbb, hcc⟩ := part_at (f := fun i j => (xs i).cell (P i) j) HX.out hlt (by omega)
              subst hAa
              have hnum : IntKind.i64.wrap ((k : Int) + 1) = ((k + 1 : Nat) : Int) := by rw [IntKind.wrap_i64]; omega
              have HC7 := Lib.hid (HAR.out k hlt _ HB.out)
              have hrg : wr.rangeAt bb (o + k * 6) ((xs k).cells (P k)).toList := Ex.range fun j hj => by rw [HB.out.cell (p := ⟨bb, o + k * 6 + j, none⟩) hbb]; exact hcc j hj
              obtain ⟨y0, y1, y2, y3, y4, y5, hyy⟩ : ∃ y0 y1 y2 y3 y4 y5, (xs k).cells (P k) = #[y0, y1, y2, y3, y4, y5] := ⟨_, _, _, _, _, _, (Ex.cells_is _ _).symm⟩
              rw [hyy] at HC7 hrg
              have HRG := Lib.hid hrg
              clear hyy hrg hcc
              go_wp2_with (refine wpList_load_mid ?_ 43 (.tmp 53) ?_ bb (o + k * 6) ?_ _ _ HRG.out Tryz.underlying43 ?_ HXI.out ?_; rfl; rfl; rfl; rfl)
              refine HC7.out.mono ?_
              rintro r w8 ⟨⟨v8, rfl, v80, v81⟩, hb8⟩
              have HF8 := Lib.hid (HF.out.below hb8 f2)
              have HB8 := Lib.hid (HB.out.trans (hb8.mono HB.out.size))
              have hws : IntKind.i64.wrap (nv + v8) = nv + v8 := by rw [IntKind.wrap_i64]; omega
              clear HF HB f0 f1 f2 hb8 HC7 HRG
              go_wp2_with fail
              go_roundw
              case rel => exact ⟨k + 1, nv + v8, by omega, by go_num, rfl, by omega, HF8, HB8⟩
              case measure => simp [intOf]; omega
            · go_wp2_with fail
              go_ret
              exact ⟨⟨_, rfl, by omega, by omega⟩, HB.out⟩
          · have hkn : k = na := by omega
            subst hkn
            have hdd : decide ((k : Int) < k) = false := by rw [decide_eq_false_iff_not]; omega
            go_wp2_with fail
            go_ret
            exact ⟨⟨_, rfl, by omega, by omega⟩, HB.out⟩
    · have o3 : (op == 3) = false := by rw [beq_eq_false_iff_ne]; exact h3
      go_wp2_with fail
      go_loopw [11, 12] (fun nx i wr => ∃ (k : Nat) (nv : Int), k ≤ na ∧ i = .int .i64 k ∧ nx = .int .i64 nv ∧ (0 ≤ nv ∧ nv ≤ 4001) ∧ Hid (Has wr G #[.int .i64 op, .string name, .slice Aw nw cw, .int .i64 lw, .int .i64 hg, .slice Aa na ca] 43) ∧ Hid (Below w.heap.size w wr)) (fun _ i _ => na - (intOf i).toNat)
      case atStart => exact ⟨0, 1, Nat.zero_le _, rfl, rfl, by omega, HF, HB⟩
      case round =>
        clear HF HB f0 f1 f2
        obtain ⟨k, nv, hk, rfl, rfl, hnv, HF, HB⟩ := hrel
        obtain ⟨f0, f1, f2⟩ := HF.out.rules
        by_cases hlt : k < na
        · have hk0 : (0 : Int) ≤ k := by omega
          have hk1 : (k : Int) < na := by omega
          by_cases hn2 : nv ≤ 2000
          · obtain ⟨bb, o, hAa, hbb, hcc⟩ := part_at (f := fun i j => (xs i).cell (P i) j) HX.out hlt (by omega)
            subst hAa
            have hnum : IntKind.i64.wrap ((k : Int) + 1) = ((k + 1 : Nat) : Int) := by rw [IntKind.wrap_i64]; omega
            have HC7 := Lib.hid (HAR.out k hlt _ HB.out)
            have hrg : wr.rangeAt bb (o + k * 6) ((xs k).cells (P k)).toList := Ex.range fun j hj => by rw [HB.out.cell (p := ⟨bb, o + k * 6 + j, none⟩) hbb]; exact hcc j hj
            obtain ⟨y0, y1, y2, y3, y4, y5, hyy⟩ : ∃ y0 y1 y2 y3 y4 y5, (xs k).cells (P k) = #[y0, y1, y2, y3, y4, y5] := ⟨_, _, _, _, _, _, (Ex.cells_is _ _).symm⟩
            rw [hyy] at HC7 hrg
            have HRG := Lib.hid hrg
            clear hyy hrg hcc
            go_wp2_with (refine wpList_load_mid ?_ 43 (.tmp 76) ?_ bb (o + k * 6) ?_ _ _ HRG.out Tryz.underlying43 ?_ HXI.out ?_; rfl; rfl; rfl; rfl)
            refine HC7.out.mono ?_
            rintro r w8 ⟨⟨v8, rfl, v80, v81⟩, hb8⟩
            have HF8 := Lib.hid (HF.out.below hb8 f2)
            have HB8 := Lib.hid (HB.out.trans (hb8.mono HB.out.size))
            have hws : IntKind.i64.wrap (nv + v8) = nv + v8 := by rw [IntKind.wrap_i64]; omega
            clear HF HB f0 f1 f2 hb8 HC7 HRG
            go_wp2_with fail
            go_roundw
            case rel => exact ⟨k + 1, nv + v8, by omega, by go_num, rfl, by omega, HF8, HB8⟩
            case measure => simp [intOf]; omega
          · go_wp2_with fail
            go_ret
            exact ⟨⟨_, rfl, by omega, by omega⟩, HB.out⟩
        · have hkn : k = na := by omega
          subst hkn
          have hdd : decide ((k : Int) < k) = false := by rw [decide_eq_false_iff_not]; omega
          go_wp2_with fail
          go_ret
          exact ⟨⟨_, rfl, by omega, by omega⟩, HB.out⟩

theorem expanded_any (B : Option Addr) (m d : Nat) (cs : Nat → Cl) (hm : m ≤ 100000) (hcf : ∀ k, k < m → (cs k).e.all fewQ) (f : Nat) : ∀ (e : Ex) (a : EA) (dp : Nat) (w : World), m + 1 ≤ dp + f → dp ≤ m + 1 → ClsAt w w.heap.size B m cs → ExAt w w.heap.size e a → e.all fewQ →
    Calls Tryz.prog 93 #[.slice B m d, .agg (e.cells a), .int .i64 dp] w (ExpP w) := by
  induction f with
  | zero =>
    intro e
    induction e with
    | bot => exact fun a dp w h1 h2 hc hx hf => hx.elim
    | mk op name nw ws lw hg na xs ihe =>
      intro a dp w h1 h2 hc hx hf
      exact expanded_node B m d cs hm op name nw ws lw hg na xs a dp w hc hx hf.1.2 h2 (fun k hk hd => by omega) (fun k hk a' W hb hx' => ihe k a' dp W h1 h2 (hc.below hb hb.size) hx' (hf.2 k hk))
  | succ f ih =>
    intro e
    induction e with
    | bot => exact fun a dp w h1 h2 hc hx hf => hx.elim
    | mk op name nw ws lw hg na xs ihe =>
      intro a dp w h1 h2 hc hx hf
      exact expanded_node B m d cs hm op name nw ws lw hg na xs a dp w hc hx hf.1.2 h2 (fun k hk hd a' W hb hx' => ih _ a' (dp + 1) W (by omega) (by omega) (hc.below hb hb.size) hx' (hcf k hk)) (fun k hk a' W hb hx' => ihe k a' dp W h1 h2 (hc.below hb hb.size) hx' (hf.2 k hk))
end Go.Proofs.YtlbkhhbbkedhkaaGreatDoor
namespace Go.Proofs.YtlbkhhbbkedhkaaGreatDoor
open Go.RowKit
set_option linter.unusedVariables false
attribute [local go_sem ↓] exec_load_ex

theorem expandedE_any (B : Option Addr) (m d : Nat) (cs : Nat → Cl) (hm : m ≤ 100000) (hcf : ∀ k, k < m → (cs k).e.all fewQ) (e : Ex) (a : EA) (w : World) (hc : ClsAt w w.heap.size B m cs) (hx : ExAt w w.heap.size e a) (hf : e.all fewQ) :
    Calls Tryz.prog 63 #[.slice B m d, .agg (e.cells a)] w (ExpP w) := by
  have HC : Hid (∀ W, Below w.heap.size w W → Calls Tryz.prog 93 #[.slice B m d, .agg (e.cells a), .int .i64 0] W (ExpP W)) := Lib.hid fun W hb => expanded_any B m d cs hm hcf (m + 1) e a 0 W (by omega) (by omega) (hc.below hb hb.size) (hx.below hb hb.size) hf
  obtain ⟨y0, y1, y2, y3, y4, y5, hyy⟩ : ∃ y0 y1 y2 y3 y4 y5, e.cells a = #[y0, y1, y2, y3, y4, y5] := ⟨_, _, _, _, _, _, (Ex.cells_is e a).symm⟩
  rw [hyy] at HC ⊢
  clear hc hx hf hcf hyy
  go_enter Tryz.func63, Tryz.ntmps63
  go_wp2_with fail
  refine (HC.out _ ((Below.refl _ _).alloc (Nat.le_refl _) _)).mono ?_
  rintro r w1 ⟨⟨v, rfl, v0, v1⟩, hb⟩
  go_wp2_with fail
  go_ret
  exact ⟨⟨v, rfl, v0, v1⟩, ((Below.refl _ _).alloc (Nat.le_refl _) _).trans (hb.mono (by simp))⟩

/-- what a yes or no is -/
def BolAny (w : World) (r : Ending) (w' : World) : Prop := (∃ v : Bool, r = .returned (.bool v)) ∧ Below w.heap.size w w'

set_option maxRecDepth 100000 in
set_option maxHeartbeats 4000000 in
theorem backslarge_any (B : Option Addr) (m d : Nat) (cs : Nat → Cl) (hm : m ≤ 100000) (hcf : ∀ k, k < m → (cs k).e.all fewQ) (u : Wb) : ∀ (D : Option Addr) (q : Nat) (w : World), ClsAt w w.heap.size B m cs → WbsAt w w.heap.size D u.n u.us → fewL u.n u.us →
    Calls Tryz.prog 64 #[.slice B m d, .slice D u.n q] w (BolAny w) := by
  refine Wb.recL (M := fun u => ∀ (D : Option Addr) (q : Nat) (w : World), ClsAt w w.heap.size B m cs → WbsAt w w.heap.size D u.n u.us → fewL u.n u.us → Calls Tryz.prog 64 #[.slice B m d, .slice D u.n q] w (BolAny w)) ?_ (fun h => h) u
  intro name e nn us ih D q w h hx hf
  obtain ⟨hnb, P, hcc, hee⟩ := hx
  have hnn : nn ≤ 40 := hf.1
  have HND : Hid (∀ k, k < nn → ∀ W, Below w.heap.size w W → Calls Tryz.prog 63 #[.slice B m d, .agg ((us k).e.cells (P k).ea)] W (ExpP W) ∧ Calls Tryz.prog 64 #[.slice B m d, .slice (P k).A (us k).n (P k).c] W (BolAny W)) := Lib.hid fun k hk W hb => by
    have h1 := (hee k hk).parts
    have h2 := wb_few (hf.2 k hk)
    have s2 := h.below hb hb.size
    exact ⟨expandedE_any B m d cs hm hcf _ _ W s2 (h1.1.below hb hb.size) h2.1, ih k hk _ _ W s2 (h1.2.below hb hb.size) h2.2⟩
  have HX : Hid (Cells w w.heap.size D (nn * 8) fun j => (us (j / 8)).cell (P (j / 8)) (j % 8)) := Lib.hid hcc
  clear h ih hcc hee hf hcf
  show Calls _ _ #[_, .slice D nn q] _ _
  go_enter Tryz.func64, Tryz.ntmps64
  go_wp2_with fail
  go_loopw [5] (fun i wr => ∃ k : Nat, k ≤ nn ∧ i = .int .i64 k ∧ Hid (Below w.heap.size w wr)) (fun i _ => nn - (intOf i).toNat)
  case atStart => exact ⟨0, Nat.zero_le _, rfl, Lib.hid (Below.refl _ _)⟩
  case round =>
    obtain ⟨k, hk, rfl, HB⟩ := hrel
    by_cases hlt : k < nn
    · obtain ⟨bb, o, hAa, hbb, hcc⟩ := part_at (f := fun i j => (us i).cell (P i) j) HX.out hlt (by omega)
      subst hAa
      have hk0 : (0 : Int) ≤ k := by omega
      have hk1 : (k : Int) < nn := by omega
      have hnum : IntKind.i64.wrap ((k : Int) + 1) = ((k + 1 : Nat) : Int) := by rw [IntKind.wrap_i64]; omega
      obtain ⟨hce, hcu⟩ := wb_cells (b := us k) (a := P k) hcc
      have HC7 := Lib.hid (HND.out k hlt)
      obtain ⟨Y, hY⟩ : ∃ z, (us k).e.cells (P k).ea = z := ⟨_, rfl⟩
      obtain ⟨A2, hA2⟩ : ∃ z, (P k).A = z := ⟨_, rfl⟩
      obtain ⟨n2, hn2⟩ : ∃ z, (us k).n = z := ⟨_, rfl⟩
      obtain ⟨c2, hc2⟩ : ∃ z, (P k).c = z := ⟨_, rfl⟩
      rw [hY, hA2, hn2, hc2] at HC7
      rw [hA2, hn2, hc2] at hcu
      have HSS : Hid (∀ V, Below w.heap.size w V → (∃ c, ExPtr V (.pointer (some ⟨bb, o + k * 8 + 1, none⟩)) c) ∧ exCells V (.pointer (some ⟨bb, o + k * 8 + 1, none⟩)) = Y ∧ V.cell? ⟨bb, o + k * 8 + 7, none⟩ = some (.slice A2 n2 c2)) := Lib.hid fun V hb => by
        have hp : ExPtr V (.pointer (some ⟨bb, o + k * 8 + 1, none⟩)) Y := ⟨bb, _, rfl, by rw [← hY]; exact Ex.range fun j hj => by rw [hb.cell (p := ⟨bb, o + k * 8 + 1 + j, none⟩) hbb]; exact hce j hj, by rw [← hY]; exact Ex.cells_size _ _⟩
        exact ⟨⟨_, hp⟩, hp.cells, by rw [hb.cell (p := ⟨bb, o + k * 8 + 7, none⟩) hbb]; exact hcu⟩
      clear hY hA2 hn2 hc2 hcc hce hcu
      obtain ⟨h1, h2, h3⟩ := HSS.out _ HB.out
      go_wp2_with fail
      refine (HC7.out _ HB.out).1.mono ?_
      rintro r w7 ⟨⟨v7, rfl, v70, v71⟩, hb7⟩
      have HB7 : Hid (Below w.heap.size w w7) := Lib.hid (HB.out.trans (hb7.mono HB.out.size))
      clear hb7 HB h1 h2 h3
      obtain ⟨h1, h2, h3⟩ := HSS.out _ HB7.out
      by_cases hv : v7 ≤ 2000
      · go_wp2_with fail
        refine (HC7.out _ HB7.out).2.mono ?_
        rintro r w8 ⟨⟨v8, rfl⟩, hb8⟩
        have HB8 : Hid (Below w.heap.size w w8) := Lib.hid (HB7.out.trans (hb8.mono HB7.out.size))
        clear hb8 HB7 h1 h2 h3
        cases v8 with
        | false =>
          go_wp2_with fail
          go_roundw
          case rel => exact ⟨k + 1, by omega, by go_num, HB8⟩
          case measure => simp [intOf]; omega
        | true =>
          go_wp2_with fail
          go_ret
          exact ⟨⟨_, rfl⟩, HB8.out⟩
      · have hv' : 2000 < v7 := by omega
        go_wp2_with fail
        go_ret
        exact ⟨⟨_, rfl⟩, HB7.out⟩
    · have hkn : k = nn := by omega
      subst hkn
      have hdd : decide ((k : Int) < k) = false := by rw [decide_eq_false_iff_not]; omega
      go_wp2_with fail
      go_ret
      exact ⟨⟨_, rfl⟩, HB.out⟩
end Go.Proofs.YtlbkhhbbkedhkaaGreatDoor
