/- The row's condition on the table of operators gives Tab; a world that meets it. -/
import Derived.Test.YtlbkhhbbkedhkaaGreatDoorRows
import Derived.Test.YtlbkhhbbkedhkaaGreatDoorMa04
import Derived.ProofKit
import Derived.LaidMore
import Derived.OpenShut
import Derived.Stop.Joined
namespace Go.Proofs.YtlbkhhbbkedhkaaGreatDoor
open Go.ChangeShapes Go.WideShapes Go.ChangeAt Go.RowKit
set_option linter.unusedVariables false

section
variable {H : Type} {enc : TypeId × Value → H} {w : World} {base fuel : Nat} {spare : Nat → Bool} {held : Bool} {cs : List Value} {x : DataW H × List MemPlace}
set_option maxRecDepth 100000 in
theorem trod_op {bs : List UInt8} {b : Bool} {a c d : Int} (h : DataW.trod enc Tryz.prog w base spare held fuel 155 cs = some x) (hx : x.1 = .agg [.lit (.string bs), .lit (.bool b), .lit (.int .i64 a), .lit (.int .i64 c), .lit (.int .i64 d)]) :
    ∃ s : ByteArray, cs = [.string s, .bool b, .int .i64 a, .int .i64 c, .int .i64 d] := by
  obtain ⟨xs, n, _, hxe, hlen, hxl, hf⟩ := DataW.trod_struct Tryz.underlying155 h
  rw [show Tryz.prog.cellsOf 155 = 5 by kernel_rfl] at hlen
  rw [hxe] at hx
  match cs, hlen, xs, hxl, hx, hf with
  | [v0, v1, v2, v3, v4], _, [x0, x1, x2, x3, x4], _, hx, hf =>
    simp only [List.map_cons, List.map_nil, DataW.agg.injEq, List.cons.injEq, and_true] at hx
    obtain ⟨h0, h1, h2, h3, h4⟩ := hx
    have f0 := hf 0 _ rfl
    have f1 := hf 1 _ rfl
    have f2 := hf 2 _ rfl
    have f3 := hf 3 _ rfl
    have f4 := hf 4 _ rfl
    simp only [List.getElem?_cons_zero, List.getElem?_cons_succ] at f0 f1 f2 f3 f4
    obtain ⟨s, e0, _, _⟩ := DataW.trod_string Tryz.underlying9 f0
    obtain ⟨b', e1, g1⟩ := DataW.trod_bool Tryz.underlying4 f1
    obtain ⟨a', e2, g2, _⟩ := DataW.trod_int Tryz.underlying3 f2
    obtain ⟨c', e3, g3, _⟩ := DataW.trod_int Tryz.underlying3 f3
    obtain ⟨d', e4, g4, _⟩ := DataW.trod_int Tryz.underlying3 f4
    rw [g1] at h1
    rw [g2] at h2
    rw [g3] at h3
    rw [g4] at h4
    simp only [DataW.lit.injEq, Lit.bool.injEq, Lit.int.injEq, true_and] at h1 h2 h3 h4
    subst h1 h2 h3 h4
    injection e0 with e0 _
    injection e1 with e1 _
    injection e2 with e2 _
    injection e3 with e3 _
    injection e4 with e4 _
    exact ⟨s, by rw [e0, e1, e2, e3, e4]⟩
end
theorem take_get {l r : List Value} {a j : Nat} (h : (l.drop a).take 5 = r) (hj : j < 5) : l[a + j]? = r[j]? := by
  rw [← h, List.getElem?_take, if_pos hj, List.getElem?_drop]

abbrev opsLaid : List (String × DataW Unit) := [("treaty/syntax.operators", Rows.laid_treaty_syntax_operators)]
theorem gOps : Tryz.prog.globalNamed "treaty/syntax.operators" = some 0 := by kernel_rfl
theorem tOps : (Tryz.prog.globals[0]?).map (·.type) = some 156 := by kernel_rfl
set_option maxRecDepth 100000 in
theorem tab_of_laid {W : World} (h : laidMetH Tryz.prog opsLaid W) : Tab W := by
  rw [MakeChecks.laidMetH_plain _ _ _ (by kernel_rfl)] at h
  obtain ⟨ps, ⟨g0, t0, cs0, f0, p0, q0, hg0, ht0, hv0, hd0, _, _⟩, _, _⟩ := h
  obtain rfl := Option.some.inj (gOps.symm.trans hg0)
  obtain rfl := Option.some.inj (tOps.symm.trans ht0)
  obtain ⟨xs, m, _, hx, _, hn, hel⟩ := DataW.trod_array Tryz.underlying156 hd0
  rw [show Tryz.prog.cellsOf 155 = 5 by kernel_rfl] at hel
  have hcell : ∀ j, W.cell? ⟨0, j, none⟩ = cs0.toList[j]? := fun j => by rw [World.var?_cell hg0 hv0 j, Array.getElem?_toList]
  have hx1 := congrArg Prod.fst hx
  simp only [Rows.laid_treaty_syntax_operators, DataW.agg.injEq] at hx1
  have key : ∀ (k : Nat) (bs : List UInt8) (b : Bool) (a c d : Int), k < 9 → (xs.map (·.1))[k]? = some (.agg [.lit (.string bs), .lit (.bool b), .lit (.int .i64 a), .lit (.int .i64 c), .lit (.int .i64 d)]) → ∃ s z, W.cell? ⟨0, k * 5, none⟩ = some (.string s) ∧ W.cell? ⟨0, k * 5 + 1, none⟩ = some (.bool b) ∧ W.cell? ⟨0, k * 5 + 2, none⟩ = some (.int .i64 a) ∧ W.cell? ⟨0, k * 5 + 3, none⟩ = some (.int .i64 c) ∧ W.cell? ⟨0, k * 5 + 4, none⟩ = some (.int .i64 z) := by
    intro k bs b a c d hk he
    rw [List.getElem?_map, List.getElem?_eq_getElem (by omega)] at he
    simp only [Option.map_some, Option.some.injEq] at he
    have h1 := hel k hk
    rw [List.getElem?_eq_getElem (by omega)] at h1
    obtain ⟨s, hs⟩ := trod_op h1 he
    refine ⟨s, d, ?_, ?_, ?_, ?_, ?_⟩
    · have := take_get hs (show 0 < 5 by omega); rw [hcell]; exact this
    · have := take_get hs (show 1 < 5 by omega); rw [hcell]; exact this
    · have := take_get hs (show 2 < 5 by omega); rw [hcell]; exact this
    · have := take_get hs (show 3 < 5 by omega); rw [hcell]; exact this
    · have := take_get hs (show 4 < 5 by omega); rw [hcell]; exact this
  intro op ho
  match op, ho with
  | 0, _ => exact key 0 _ _ _ _ _ (by omega) (by rw [← hx1]; rfl)
  | 1, _ => exact key 1 _ _ _ _ _ (by omega) (by rw [← hx1]; rfl)
  | 2, _ => exact key 2 _ _ _ _ _ (by omega) (by rw [← hx1]; rfl)
  | 3, _ => exact key 3 _ _ _ _ _ (by omega) (by rw [← hx1]; rfl)
  | 4, _ => exact key 4 _ _ _ _ _ (by omega) (by rw [← hx1]; rfl)
  | 5, _ => exact key 5 _ _ _ _ _ (by omega) (by rw [← hx1]; rfl)
  | 6, _ => exact key 6 _ _ _ _ _ (by omega) (by rw [← hx1]; rfl)
  | 7, _ => exact key 7 _ _ _ _ _ (by omega) (by rw [← hx1]; rfl)
  | 8, _ => exact key 8 _ _ _ _ _ (by omega) (by rw [← hx1]; rfl)
  | k + 9, h => omega
theorem door_met (os : Os) (args : Array Value) : laidMetH Tryz.prog opsLaid ((World.doorLaid Tryz.prog 400 os).forCall (fun _ _ => 0) ⟨#[], args, []⟩).memory :=
  laidMetH_of_parts3 (fuel := 8) (laidMet_of_run' 8 (by kernel_rfl) (by kernel_rfl)) (by kernel_rfl) (by kernel_rfl)
end Go.Proofs.YtlbkhhbbkedhkaaGreatDoor
