/- Participations: contract.Parts and the reference's; whether a list holds a number. A whole struct or array out of and into a block that is known whole, as laws of a plain region. No program in sight. -/
import Derived.Test.YtbeikfopneeodaaGreatMt04
import Derived.Test.YtbeikfopneeodaaGreatShelf
import Derived.Test.YtbeikfopneeodaaGreatMt02
import Derived.Laws.Rows
import Derived.Laws.Tables
import Derived.Deep.WholeRow
namespace Go.Proofs.YtbeikfopneeodaaGreat
open Go.RowKit
set_option linter.unusedVariables false

theorem Ty.perr_bad {n : Nat} {f g : Nat → Int} {r : Int} (hl : ¬ 12 < n) (h : scan (Ty.pc f g) n 0 = r) (hr : r ≠ 0) : Ty.perr n f g = r := by
  unfold Ty.perr Ty.perr0
  rw [if_neg hl, h, if_pos hr]
theorem Ty.perr_end {n : Nat} {f g : Nat → Int} (hl : ¬ 12 < n) (h : scan (Ty.pc f g) n 0 = 0) : Ty.perr n f g = if 1000000 < Ex.psum g n then 14 else 0 := by
  unfold Ty.perr Ty.perr0
  rw [if_neg hl, h, if_neg (fun c => c rfl)]

set_option maxHeartbeats 2000000 in
theorem parts_any (A : Option Addr) (n c : Nat) (f g : Nat → Int) (w : World) (hn : n ≤ 9223372036854775807) (h : Pairs w w.heap.size A n f g) :
    Calls Tryz.prog 86 #[.slice A n c] w (IntPost (Ty.perr n f g) w) := by
  by_cases hl : 12 < n
  · have e : Ty.perr n f g = 4 := by unfold Ty.perr Ty.perr0; rw [if_pos hl]; rfl
    rw [e]
    clear h e
    go_enter Tryz.func86, Tryz.ntmps86
    go_wp2
    go_ret
    exact ⟨rfl, Below.refl _ _⟩
  have hl' : n ≤ 12 := by omega
  obtain ⟨r, hr⟩ : ∃ r, scan (Ty.pc f g) n 0 = r := ⟨_, rfl⟩
  have HR : Hid (scan (Ty.pc f g) (n - 0) 0 = r) := Lib.hid hr
  obtain ⟨R, hR⟩ : ∃ R, Ty.perr n f g = R := ⟨_, rfl⟩
  have HF : Hid (r ≠ 0 → R = r) := Lib.hid fun hz => by rw [← hR]; exact Ty.perr_bad hl hr hz
  have HF0 : Hid (r = 0 → R = if 1000000 < Ex.psum g n then 14 else 0) := Lib.hid fun hz => by rw [← hR]; exact Ty.perr_end hl (hr.trans hz)
  rw [hR]
  have H := Lib.hid h
  clear hl hr hR h hn
  go_enter Tryz.func86, Tryz.ntmps86
  go_wp2
  go_loopw [3, 4, 5, 11] (fun s _ _ i wr => ∃ (k : Nat) (z : Int), k ≤ n ∧ i = .int .i64 k ∧ s = .int .i64 z ∧ 0 ≤ z ∧ z ≤ 1000000 * k ∧ Hid (Ex.psum g k = z) ∧ Hid (scan (Ty.pc f g) (n - k) k = r) ∧ Hid (Below w.heap.size w wr)) (fun _ _ _ i _ => n - (intOf i).toNat)
  case atStart => exact ⟨0, 0, Nat.zero_le _, rfl, rfl, by omega, by omega, Lib.hid rfl, HR, Lib.hid (Below.refl _ _)⟩
  case round =>
    obtain ⟨k, z, hk, rfl, rfl, z0, z1, HZ, HS, HB⟩ := hrel
    have hs := HB.out.size
    by_cases hlt : k < n
    · obtain ⟨b, o, rfl, had, hc0, hc1⟩ := ((H.out.below HB.out).mono hs).get hlt
      obtain ⟨x, hx⟩ : ∃ x, f k = x := ⟨_, rfl⟩
      obtain ⟨y, hy⟩ : ∃ y, g k = y := ⟨_, rfl⟩
      rw [hx] at hc0
      rw [hy] at hc1
      have HX := Lib.hid hx
      have HY := Lib.hid hy
      clear hx hy
      by_cases hh : 1 ≤ x ∧ x ≤ 15
      · obtain ⟨hh0, hh1⟩ := hh
        by_cases hi : 1 ≤ y ∧ y ≤ 1000000
        · obtain ⟨hi0, hi1⟩ := hi
          have hP : (1 ≤ f k ∧ f k ≤ 15) ∧ (1 ≤ g k ∧ g k ≤ 1000000) := by rw [HX.out, HY.out]; exact ⟨⟨hh0, hh1⟩, hi0, hi1⟩
          have HP := Lib.hid hP
          have HZ2 : Hid (Ex.psum g (k + 1) = z + y) := Lib.hid (by rw [Ex.psum, HZ.out, HY.out])
          have hw2 : IntKind.i64.wrap (z + y) = z + y := by rw [IntKind.wrap_i64]; omega
          clear hP
          cases k with
          | zero =>
            have HG : Hid (scan (Ty.pc f g) (n - (0 + 1)) (0 + 1) = r) := Lib.hid (by rw [← scan_go _ hlt (Ty.pc_fine HP.out (by omega))]; exact HS.out)
            clear HP HX HY HS
            simp only [Nat.zero_mul, Nat.add_zero] at hc0 hc1
            go_wp2_with (go_at_call 81; refine (tywithin_any _ _ _ _).mono ?_; rintro e w' ⟨rfl, rfl⟩)
            go_quiet (fail)
            go_wp2_with fail
            go_roundw
            case rel => exact ⟨0 + 1, z + y, by omega, rfl, rfl, by omega, by omega, HZ2, HG, Lib.hid (below_drewN (HB.out.alloc hs _) _)⟩
            case measure => simp [intOf]; omega
          | succ j =>
            obtain ⟨b', o', e', _, hp0, _⟩ := ((H.out.below HB.out).mono hs).get (j := j) (by omega)
            simp only [Option.some.injEq, Addr.mk.injEq, and_true] at e'
            obtain ⟨rfl, rfl⟩ := e'
            obtain ⟨p, hp⟩ : ∃ p, f j = p := ⟨_, rfl⟩
            rw [hp] at hp0
            have HPP := Lib.hid hp
            have hw : IntKind.i64.wrap (((j + 1 : Nat) : Int) - 1) = j := by rw [IntKind.wrap_i64]; omega
            have hj0 : (0 : Int) ≤ j := by omega
            have hj1 : (j : Int) < n := by omega
            clear hp
            by_cases ho : x ≤ p
            · have HG : Hid (R = 13) := Lib.hid (by
                have e : 13 = r := by rw [← HS.out, scan_stop _ hlt (by rw [Ty.pc_order HP.out ⟨by omega, by rw [HX.out, Nat.add_sub_cancel, HPP.out]; exact ho⟩]; omega), Ty.pc_order HP.out ⟨by omega, by rw [HX.out, Nat.add_sub_cancel, HPP.out]; exact ho⟩]
                rw [HF.out (by omega), e])
              clear HP HX HY HS HPP HZ2 HZ
              go_wp2_with (go_at_call 81; refine (tywithin_any _ _ _ _).mono ?_; rintro e w' ⟨rfl, rfl⟩)
              go_quiet (fail)
              go_wp2_with fail
              go_ret
              exact ⟨ret_i64 HG.out.symm, below_drewN (HB.out.alloc hs _) _⟩
            · have HG : Hid (scan (Ty.pc f g) (n - (j + 1 + 1)) (j + 1 + 1) = r) := Lib.hid (by rw [← scan_go _ hlt (Ty.pc_fine HP.out (by rw [HX.out, Nat.add_sub_cancel, HPP.out]; omega))]; exact HS.out)
              clear HP HX HY HS HPP
              go_wp2_with (go_at_call 81; refine (tywithin_any _ _ _ _).mono ?_; rintro e w' ⟨rfl, rfl⟩)
              go_quiet (fail)
              go_wp2_with fail
              go_roundw
              case rel => exact ⟨j + 1 + 1, z + y, by omega, by go_num, rfl, by omega, by omega, HZ2, HG, Lib.hid (below_drewN (HB.out.alloc hs _) _)⟩
              case measure => simp [intOf]; omega
        · have HG : Hid (R = 1) := Lib.hid (by
            have hP : ¬ ((1 ≤ f k ∧ f k ≤ 15) ∧ (1 ≤ g k ∧ g k ≤ 1000000)) := by rw [HX.out, HY.out]; omega
            have e : 1 = r := by rw [← HS.out, scan_stop _ hlt (by rw [Ty.pc_bad hP]; omega), Ty.pc_bad hP]
            rw [HF.out (by omega), e])
          have hd : decide (1 ≤ y ∧ y ≤ 1000000) = false := by rw [decide_eq_false_iff_not]; exact hi
          clear HX HY HS hi HZ
          go_wp2_with (go_at_call 81; refine (tywithin_any _ _ _ _).mono ?_; rintro e w' ⟨rfl, rfl⟩)
          go_ret
          exact ⟨ret_i64 HG.out.symm, HB.out.alloc hs _⟩
      · have HG : Hid (R = 1) := Lib.hid (by
          have hP : ¬ ((1 ≤ f k ∧ f k ≤ 15) ∧ (1 ≤ g k ∧ g k ≤ 1000000)) := by rw [HX.out, HY.out]; omega
          have e : 1 = r := by rw [← HS.out, scan_stop _ hlt (by rw [Ty.pc_bad hP]; omega), Ty.pc_bad hP]
          rw [HF.out (by omega), e])
        have hd : decide (1 ≤ x ∧ x ≤ 15) = false := by rw [decide_eq_false_iff_not]; exact hh
        clear HX HY HS hh HZ
        go_wp2_with (go_at_call 81; refine (tywithin_any _ _ _ _).mono ?_; rintro e w' ⟨rfl, rfl⟩)
        go_ret
        exact ⟨ret_i64 HG.out.symm, HB.out.alloc hs _⟩
    · obtain rfl : k = n := by omega
      have HE : Hid (R = if 1000000 < z then 14 else 0) := Lib.hid (by rw [HF0.out (by rw [← HS.out, scan_end]), HZ.out])
      clear HF HF0 HS HZ
      by_cases hz : 1000000 < z
      · go_wp2
        go_ret
        exact ⟨ret_i64 (by rw [HE.out, if_pos hz]), HB.out⟩
      · go_wp2
        go_ret
        exact ⟨ret_i64 (by rw [HE.out, if_neg (by omega)]), HB.out⟩

/-- what the reference's parts returns: a sum and an error -/
def PartsPost (n : Nat) (f g : Nat → Int) (w : World) (e : Ending) (w' : World) : Prop :=
  e = .returned (.tuple #[.int .i64 (if Ty.perr0 n f g = 0 then Ex.psum g n else 0), .int .i64 (Ty.perr0 n f g)]) ∧ Below w.heap.size w w'

def PartsPost2 (r z : Int) (w : World) (e : Ending) (w' : World) : Prop := ∃ s : Int, e = .returned (.tuple #[.int .i64 s, .int .i64 r]) ∧ Hid (s = if r = 0 then z else 0) ∧ Below w.heap.size w w'
theorem ret_two {a b c d : Int} (h : a = b) (k : c = d) : Ending.returned (.tuple #[.int .i64 a, .int .i64 c]) = .returned (.tuple #[.int .i64 b, .int .i64 d]) := by rw [h, k]

theorem Ty.perr_ref (n : Nat) (f g : Nat → Int) : Ty.perr n f g = if Ty.perr0 n f g = 0 ∧ 1000000 < (if Ty.perr0 n f g = 0 then Ex.psum g n else 0) then 14 else Ty.perr0 n f g := by
  unfold Ty.perr
  by_cases h : Ty.perr0 n f g = 0
  · rw [if_neg (fun c => c h), if_pos h, h]
    by_cases c : 1000000 < Ex.psum g n
    · rw [if_pos c, if_pos ⟨rfl, c⟩]
    · rw [if_neg c, if_neg (fun k => c k.2)]
  · rw [if_pos h, if_neg (fun k => h k.1)]

end Go.Proofs.YtbeikfopneeodaaGreat
namespace Go.Proofs.YtbeikfopneeodaaGreat
open Go.RowKit

theorem Has.alloc1 {w : World} {b : Nat} {cs : Array Value} {t : TypeId} {o : Obj} (h : Has w b cs t) : Has (w.alloc o) b cs t := h.alloc o

/-- all the cells of a block, as the walk reads a struct -/
theorem Has.load {P : Program} {w : World} {b : Nat} {cs : Array Value} {t : TypeId} (h : Has w b cs t) (n : Nat) (hn : cs.size = n) : (loadCellsFrom ⟨b, 0, none⟩ 0 n #[]).run P w = .ok cs w := by
  subst hn
  have := run_loadCells_list (P := P) w ⟨b, 0, none⟩ cs.toList (fun j v hv => by
    rw [Go.WideShapes.add_plain, Nat.zero_add, h.cell]
    simpa using hv)
  simpa [loadCells] using this

section
variable {P : Program} {ops : Array Oper} {rest : List Oper} {o : Oper} {a : Act} {w : World} {Q : Exit → Act → World → Prop}
theorem wpList_load_has (hgd : o.guard = none) (ty : TypeId) (x : Operand) (ho : o.op = .load ty x)
    (g : Nat) (hx : a.eval x = .pointer (some ⟨g, 0, none⟩)) (t : TypeId) (cs : Array Value) (d : TypeDesc) (hg : Has w g cs t)
    (hu : P.underlying ty = some d) (hd : (match d with | .struct _ | .array _ _ => true | _ => false) = true) (hi : (P.info? ty).map (·.size) = some cs.size)
    (h : wpList P ops Q rest (a.put o.dst (.agg cs)) w) : wpList P ops Q (o :: rest) a w :=
  wpList_load_row hgd ty x ho g hx t cs (0, 0) d hg hu hd hi h
theorem wpList_store_has (hgd : o.guard = none) (ty : TypeId) (x y : Operand) (ho : o.op = .store ty x y)
    (g : Nat) (hx : a.eval x = .pointer (some ⟨g, 0, none⟩)) (cells : Array Value) (hy : a.eval y = .agg cells)
    (t : TypeId) (old : Array Value) (hg : Has w g old t) (hi : (P.info? ty).map (·.size) = some cells.size)
    (hold : old.size = cells.size) (h1 : cells.toList.all (·.oneCell') = true)
    (h : ∀ w2, Has w2 g cells t → Leaves (fun k => k = g) w w2 → wpList P ops Q rest (a.put o.dst undef) w2) : wpList P ops Q (o :: rest) a w :=
  wpList_store_row hgd ty x y ho g cells hx hy t old hg hi hold (by rw [← Array.all_toList]; exact h1) (h _ (setRow_heap w g old cells t (0, 0) hg)
    ⟨rfl, rfl, rfl, by simp, fun k _ hn => setRow_other w g k cells hn⟩)
theorem wpList_build_is (hgd : o.guard = none) (t : TypeId) (parts : List (Nat × Operand)) (ho : o.op = .build t parts.toArray) (L : List (Nat × Value)) (hp : parts.map (fun x => (x.1, a.eval x.2)) = L)
    (cells : Array Value) (hb : P.built t L = some cells) (h : wpList P ops Q rest (a.put o.dst (.agg cells)) w) : wpList P ops Q (o :: rest) a w := by
  have e : (parts.toArray.map fun (i, x) => (i, a.eval x)).toList = L := by simpa using hp
  exact wpList_build hgd t parts.toArray ho (by rw [e, hb]; rfl) (by rw [e, hb]; exact h)
end
end Go.Proofs.YtbeikfopneeodaaGreat
