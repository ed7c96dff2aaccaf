/- slices.Clone of slices of structs (printed by wip/gen/tda.py). Package amount in plain words: what Valid, Clamp, MulDiv, Share and Sum compute, on integers; no program in sight. A list that is looked through from its beginning for the first fault. No program in sight. Package excess in plain words. No program in sight. -/
import Derived.Test.YtbeikfopneeodaaGreatMt02
import Derived.WalkSpells
import Derived.Lib.SlicesS
import Derived.WalkKit
namespace Go.Proofs.YtbeikfopneeodaaGreat
open Go.RowKit
set_option linter.unusedVariables false

/-- a row that a call has made -/
def RowM (n s : Nat) (e : TypeId) (F : Nat → Value) (w : World) (r : Ending) (w' : World) : Prop := ∃ X cap, r = .returned (.slice (some ⟨X, 0, none⟩) n cap) ∧ Own w' w.heap.size X n cap s e F ∧ Below w.heap.size w w'

set_option maxRecDepth 100000 in
theorem clone_nil_Part (w : World) : Calls Tryz.prog 62 #[.slice none 0 0] w fun e w' => e = .returned (.slice none 0 0) ∧ w = w' := by
  have q22 : ∀ (w : World) (a : Option Addr) (n c n' c' : Nat), (binOp .eql 52 (.slice a n c) (.slice none n' c')).run Tryz.prog w = .ok (.bool a.isNone) w := fun w a n c n' c' => Lib.run_eql_slice_nil w _ _ a n c n' c' Tryz.underlying52
  go_enter Tryz.func62, Tryz.ntmps62
  go_wp2_with fail
  go_ret
  exact ⟨rfl, rfl⟩

set_option maxRecDepth 100000 in
theorem clone_nil_Index (w : World) : Calls Tryz.prog 63 #[.slice none 0 0] w fun e w' => e = .returned (.slice none 0 0) ∧ w = w' := by
  have q22 : ∀ (w : World) (a : Option Addr) (n c n' c' : Nat), (binOp .eql 56 (.slice a n c) (.slice none n' c')).run Tryz.prog w = .ok (.bool a.isNone) w := fun w a n c n' c' => Lib.run_eql_slice_nil w _ _ a n c n' c' Tryz.underlying56
  go_enter Tryz.func63, Tryz.ntmps63
  go_wp2_with fail
  go_ret
  exact ⟨rfl, rfl⟩

set_option maxRecDepth 100000 in
theorem clone_nil_Rate (w : World) : Calls Tryz.prog 64 #[.slice none 0 0] w fun e w' => e = .returned (.slice none 0 0) ∧ w = w' := by
  have q22 : ∀ (w : World) (a : Option Addr) (n c n' c' : Nat), (binOp .eql 57 (.slice a n c) (.slice none n' c')).run Tryz.prog w = .ok (.bool a.isNone) w := fun w a n c n' c' => Lib.run_eql_slice_nil w _ _ a n c n' c' Tryz.underlying57
  go_enter Tryz.func64, Tryz.ntmps64
  go_wp2_with fail
  go_ret
  exact ⟨rfl, rfl⟩

set_option maxRecDepth 100000 in
theorem clone_nil_Loss (w : World) : Calls Tryz.prog 41 #[.slice none 0 0] w fun e w' => e = .returned (.slice none 0 0) ∧ w = w' := by
  have q22 : ∀ (w : World) (a : Option Addr) (n c n' c' : Nat), (binOp .eql 60 (.slice a n c) (.slice none n' c')).run Tryz.prog w = .ok (.bool a.isNone) w := fun w a n c n' c' => Lib.run_eql_slice_nil w _ _ a n c n' c' Tryz.underlying60
  go_enter Tryz.func41, Tryz.ntmps41
  go_wp2_with fail
  go_ret
  exact ⟨rfl, rfl⟩

set_option maxRecDepth 100000 in
theorem clone_nil_End (w : World) : Calls Tryz.prog 42 #[.slice none 0 0] w fun e w' => e = .returned (.slice none 0 0) ∧ w = w' := by
  have q22 : ∀ (w : World) (a : Option Addr) (n c n' c' : Nat), (binOp .eql 61 (.slice a n c) (.slice none n' c')).run Tryz.prog w = .ok (.bool a.isNone) w := fun w a n c n' c' => Lib.run_eql_slice_nil w _ _ a n c n' c' Tryz.underlying61
  go_enter Tryz.func42, Tryz.ntmps42
  go_wp2_with fail
  go_ret
  exact ⟨rfl, rfl⟩

set_option maxRecDepth 100000 in
theorem clone_nil_Posting (w : World) : Calls Tryz.prog 39 #[.slice none 0 0] w fun e w' => e = .returned (.slice none 0 0) ∧ w = w' := by
  have q22 : ∀ (w : World) (a : Option Addr) (n c n' c' : Nat), (binOp .eql 62 (.slice a n c) (.slice none n' c')).run Tryz.prog w = .ok (.bool a.isNone) w := fun w a n c n' c' => Lib.run_eql_slice_nil w _ _ a n c n' c' Tryz.underlying62
  go_enter Tryz.func39, Tryz.ntmps39
  go_wp2_with fail
  go_ret
  exact ⟨rfl, rfl⟩

set_option maxRecDepth 100000 in
theorem clone_nil_Bordereau (w : World) : Calls Tryz.prog 38 #[.slice none 0 0] w fun e w' => e = .returned (.slice none 0 0) ∧ w = w' := by
  have q22 : ∀ (w : World) (a : Option Addr) (n c n' c' : Nat), (binOp .eql 75 (.slice a n c) (.slice none n' c')).run Tryz.prog w = .ok (.bool a.isNone) w := fun w a n c n' c' => Lib.run_eql_slice_nil w _ _ a n c n' c' Tryz.underlying75
  go_enter Tryz.func38, Tryz.ntmps38
  go_wp2_with fail
  go_ret
  exact ⟨rfl, rfl⟩

set_option maxRecDepth 100000 in
theorem pa_all : (Tryz.prog.info? 51).map (fun i => (i.zero, i.size, i.bytes)) = some (some (.agg #[.int .i64 0, .int .i64 0]), 2, 16) := by kernel_rfl
set_option maxRecDepth 100000 in
set_option maxHeartbeats 1000000 in
theorem clone_pa (ad : Addr) (n c : Nat) (F : Nat → Value) (w : World) (hn : n ≤ 1000) (hp : 0 < n) (h : Cells w w.heap.size (some ad) (n * 2) F) (h1 : ∀ j, j < n * 2 → (F j).oneCell' = true) :
    Calls Tryz.prog 62 #[.slice (some ad) n c] w (RowM n 2 51 F w) := by
  have HX := Lib.hid h
  have HO := Lib.hid h1
  have HP := Lib.hid hp
  obtain ⟨i0, hi0, hz0, hz1, hz2⟩ := info_parts pa_all
  have HI := Lib.hid hi0
  have HZ0 := Lib.hid hz0
  have HZ1 := Lib.hid hz1
  have HZ2 := Lib.hid hz2
  clear h h1 hi0 hz0 hz1 hz2 hp
  have q22 : ∀ (w : World) (a : Option Addr) (n c n' c' : Nat), (binOp .eql 52 (.slice a n c) (.slice none n' c')).run Tryz.prog w = .ok (.bool a.isNone) w := fun w a n c n' c' => Lib.run_eql_slice_nil w _ _ a n c n' c' Tryz.underlying52
  have HOW : Hid ((w.alloc (.cells #[] 51)).ownsRow w.heap.size 51 2 (.slice (some ⟨w.heap.size, 0, none⟩) 0 0) 0 []) := Lib.hid (own_empty w _ _)
  have HB : Hid (Below w.heap.size w (w.alloc (.cells #[] 51))) := Lib.hid ((Below.refl _ _).alloc (Nat.le_refl _) _)
  go_enter Tryz.func62, Tryz.ntmps62
  go_wp2_with ((at_builtin; refine wpList_append_cells _ rfl _ _ 52 rfl w.heap.size 51 i0 _ 2 16 Tryz.underlying52 HI.out HZ0.out HZ1.out HZ2.out rfl (by omega) _ 0 [] rfl HOW.out w.heap.size (some ad) n c F rfl (Cells.below HX.out HB.out) (fun e => by cases e) HO.out (by unfold maxLen; omega) (by omega) (by simp) ?_; intro v' w2 hown hgrow hat))
  have HB2 : Hid (Below w.heap.size w w2) := Lib.hid (HB.out.grown hgrow HB.out.size (fun q hq => (own_lt HOW.out hq).2))
  rw [Nat.zero_add, List.nil_append] at hown
  have hm := Own.made (F := F) hown (fun j hj => rowL_get _ _ _ hj)
  have HM : Hid (∃ X cap, v' = .slice (some ⟨X, 0, none⟩) n cap ∧ Own w2 w.heap.size X n cap 2 51 F) := Lib.hid (by
    rcases hm with ⟨_, e⟩ | h
    · have := HP.out
      omega
    · exact h)
  clear hown hgrow hat HOW HB hm
  obtain ⟨X, cap, rfl, ho⟩ := HM.out
  have HOx := Lib.hid ho
  clear HM ho
  go_wp2_with fail
  go_ret
  exact ⟨X, cap, rfl, HOx.out, HB2.out⟩

set_option maxRecDepth 100000 in
theorem lo_all : (Tryz.prog.info? 72).map (fun i => (i.zero, i.size, i.bytes)) = some (some (.agg #[.int .i64 0, .int .i64 0, .int .i64 0, .int .i64 0, .int .i64 0, .int .i64 0, .int .i64 0, .int .i64 0, .int .i64 0, .int .i64 0]), 10, 80) := by kernel_rfl
set_option maxRecDepth 100000 in
set_option maxHeartbeats 1000000 in
theorem clone_lo (ad : Addr) (n c : Nat) (F : Nat → Value) (w : World) (hn : n ≤ 1000) (hp : 0 < n) (h : Cells w w.heap.size (some ad) (n * 10) F) (h1 : ∀ j, j < n * 10 → (F j).oneCell' = true) :
    Calls Tryz.prog 41 #[.slice (some ad) n c] w (RowM n 10 72 F w) := by
  have HX := Lib.hid h
  have HO := Lib.hid h1
  have HP := Lib.hid hp
  obtain ⟨i0, hi0, hz0, hz1, hz2⟩ := info_parts lo_all
  have HI := Lib.hid hi0
  have HZ0 := Lib.hid hz0
  have HZ1 := Lib.hid hz1
  have HZ2 := Lib.hid hz2
  clear h h1 hi0 hz0 hz1 hz2 hp
  have q22 : ∀ (w : World) (a : Option Addr) (n c n' c' : Nat), (binOp .eql 60 (.slice a n c) (.slice none n' c')).run Tryz.prog w = .ok (.bool a.isNone) w := fun w a n c n' c' => Lib.run_eql_slice_nil w _ _ a n c n' c' Tryz.underlying60
  have HOW : Hid ((w.alloc (.cells #[] 72)).ownsRow w.heap.size 72 10 (.slice (some ⟨w.heap.size, 0, none⟩) 0 0) 0 []) := Lib.hid (own_empty w _ _)
  have HB : Hid (Below w.heap.size w (w.alloc (.cells #[] 72))) := Lib.hid ((Below.refl _ _).alloc (Nat.le_refl _) _)
  go_enter Tryz.func41, Tryz.ntmps41
  go_wp2_with ((at_builtin; refine wpList_append_cells _ rfl _ _ 60 rfl w.heap.size 72 i0 _ 10 80 Tryz.underlying60 HI.out HZ0.out HZ1.out HZ2.out rfl (by omega) _ 0 [] rfl HOW.out w.heap.size (some ad) n c F rfl (Cells.below HX.out HB.out) (fun e => by cases e) HO.out (by unfold maxLen; omega) (by omega) (by simp) ?_; intro v' w2 hown hgrow hat))
  have HB2 : Hid (Below w.heap.size w w2) := Lib.hid (HB.out.grown hgrow HB.out.size (fun q hq => (own_lt HOW.out hq).2))
  rw [Nat.zero_add, List.nil_append] at hown
  have hm := Own.made (F := F) hown (fun j hj => rowL_get _ _ _ hj)
  have HM : Hid (∃ X cap, v' = .slice (some ⟨X, 0, none⟩) n cap ∧ Own w2 w.heap.size X n cap 10 72 F) := Lib.hid (by
    rcases hm with ⟨_, e⟩ | h
    · have := HP.out
      omega
    · exact h)
  clear hown hgrow hat HOW HB hm
  obtain ⟨X, cap, rfl, ho⟩ := HM.out
  have HOx := Lib.hid ho
  clear HM ho
  go_wp2_with fail
  go_ret
  exact ⟨X, cap, rfl, HOx.out, HB2.out⟩

set_option maxRecDepth 100000 in
theorem po_all : (Tryz.prog.info? 101).map (fun i => (i.zero, i.size, i.bytes)) = some (some (.agg #[.int .i64 0, .int .i64 0, .int .i64 0, .int .i64 0, .int .i64 0, .int .i64 0, .int .i64 0]), 7, 56) := by kernel_rfl
set_option maxRecDepth 100000 in
set_option maxHeartbeats 1000000 in
theorem clone_po (ad : Addr) (n c : Nat) (F : Nat → Value) (w : World) (hn : n ≤ 1000) (hp : 0 < n) (h : Cells w w.heap.size (some ad) (n * 7) F) (h1 : ∀ j, j < n * 7 → (F j).oneCell' = true) :
    Calls Tryz.prog 39 #[.slice (some ad) n c] w (RowM n 7 101 F w) := by
  have HX := Lib.hid h
  have HO := Lib.hid h1
  have HP := Lib.hid hp
  obtain ⟨i0, hi0, hz0, hz1, hz2⟩ := info_parts po_all
  have HI := Lib.hid hi0
  have HZ0 := Lib.hid hz0
  have HZ1 := Lib.hid hz1
  have HZ2 := Lib.hid hz2
  clear h h1 hi0 hz0 hz1 hz2 hp
  have q22 : ∀ (w : World) (a : Option Addr) (n c n' c' : Nat), (binOp .eql 62 (.slice a n c) (.slice none n' c')).run Tryz.prog w = .ok (.bool a.isNone) w := fun w a n c n' c' => Lib.run_eql_slice_nil w _ _ a n c n' c' Tryz.underlying62
  have HOW : Hid ((w.alloc (.cells #[] 101)).ownsRow w.heap.size 101 7 (.slice (some ⟨w.heap.size, 0, none⟩) 0 0) 0 []) := Lib.hid (own_empty w _ _)
  have HB : Hid (Below w.heap.size w (w.alloc (.cells #[] 101))) := Lib.hid ((Below.refl _ _).alloc (Nat.le_refl _) _)
  go_enter Tryz.func39, Tryz.ntmps39
  go_wp2_with ((at_builtin; refine wpList_append_cells _ rfl _ _ 62 rfl w.heap.size 101 i0 _ 7 56 Tryz.underlying62 HI.out HZ0.out HZ1.out HZ2.out rfl (by omega) _ 0 [] rfl HOW.out w.heap.size (some ad) n c F rfl (Cells.below HX.out HB.out) (fun e => by cases e) HO.out (by unfold maxLen; omega) (by omega) (by simp) ?_; intro v' w2 hown hgrow hat))
  have HB2 : Hid (Below w.heap.size w w2) := Lib.hid (HB.out.grown hgrow HB.out.size (fun q hq => (own_lt HOW.out hq).2))
  rw [Nat.zero_add, List.nil_append] at hown
  have hm := Own.made (F := F) hown (fun j hj => rowL_get _ _ _ hj)
  have HM : Hid (∃ X cap, v' = .slice (some ⟨X, 0, none⟩) n cap ∧ Own w2 w.heap.size X n cap 7 101 F) := Lib.hid (by
    rcases hm with ⟨_, e⟩ | h
    · have := HP.out
      omega
    · exact h)
  clear hown hgrow hat HOW HB hm
  obtain ⟨X, cap, rfl, ho⟩ := HM.out
  have HOx := Lib.hid ho
  clear HM ho
  go_wp2_with fail
  go_ret
  exact ⟨X, cap, rfl, HOx.out, HB2.out⟩
end Go.Proofs.YtbeikfopneeodaaGreat
namespace Go.Proofs.YtbeikfopneeodaaGreat.Am

def validB (a : Int) : Bool := decide (-17592186044416 ≤ a) && decide (a ≤ 17592186044416)
def factorB (a : Int) : Bool := decide (0 ≤ a) && decide (a ≤ 17592186044416)

theorem validB_iff (a : Int) : validB a = true ↔ -17592186044416 ≤ a ∧ a ≤ 17592186044416 := by simp [validB]
theorem factorB_iff (a : Int) : factorB a = true ↔ 0 ≤ a ∧ a ≤ 17592186044416 := by simp [factorB]
theorem validB_false (a : Int) : validB a = false ↔ a < -17592186044416 ∨ 17592186044416 < a := by
  have := validB_iff a; cases h : validB a <;> simp [h] at this ⊢ <;> omega
theorem factorB_false (a : Int) : factorB a = false ↔ a < 0 ∨ 17592186044416 < a := by
  have := factorB_iff a; cases h : factorB a <;> simp [h] at this ⊢ <;> omega

/-- is the absolute value of a quotient rounded up? -/
def awayB (q r d : Int) (neg : Bool) (m : Int) : Bool :=
  if r = 0 then false else if m = 2 then neg else if m = 3 then !neg
  else if m = 5 then (if 2 * r = d then q % 2 == 1 else decide (d ≤ 2 * r)) else if m = 4 then decide (d ≤ 2 * r) else false

def absI (a : Int) : Int := if a < 0 then -a else a

/-- the absolute value of the rounded quotient -/
def mag (a num den m : Int) : Int :=
  absI a * num / den + (if awayB (absI a * num / den) (absI a * num % den) den (decide (a < 0)) m then 1 else 0)

/-- a * num / den, rounded; the error's number -/
def md (a num den m : Int) : Int × Int :=
  if m < 1 ∨ 5 < m then (0, 11)
  else if ¬ (validB a = true ∧ factorB num = true ∧ factorB den = true) then (0, 1)
  else if den = 0 then (0, 2)
  else if 17592186044416 < mag a num den m then (0, 3)
  else (if a < 0 then -mag a num den m else mag a num den m, 0)

theorem md_mode {a num den m : Int} (h : m < 1 ∨ 5 < m) : md a num den m = (0, 11) := by rw [md, if_pos h]
theorem md_range {a num den m : Int} (h : ¬ (m < 1 ∨ 5 < m)) (h2 : ¬ (validB a = true ∧ factorB num = true ∧ factorB den = true)) : md a num den m = (0, 1) := by
  rw [md, if_neg h, if_pos h2]
theorem md_zero {a num den m : Int} (h : ¬ (m < 1 ∨ 5 < m)) (h2 : validB a = true ∧ factorB num = true ∧ factorB den = true) (h3 : den = 0) : md a num den m = (0, 2) := by
  rw [md, if_neg h, if_neg (fun c => c h2), if_pos h3]
theorem md_over {a num den m : Int} (h : ¬ (m < 1 ∨ 5 < m)) (h2 : validB a = true ∧ factorB num = true ∧ factorB den = true) (h3 : ¬ den = 0)
    (h4 : 17592186044416 < mag a num den m) : md a num den m = (0, 3) := by
  rw [md, if_neg h, if_neg (fun c => c h2), if_neg h3, if_pos h4]
theorem md_ok {a num den m : Int} (h : ¬ (m < 1 ∨ 5 < m)) (h2 : validB a = true ∧ factorB num = true ∧ factorB den = true) (h3 : ¬ den = 0)
    (h4 : ¬ 17592186044416 < mag a num den m) : md a num den m = (if a < 0 then -mag a num den m else mag a num den m, 0) := by
  rw [md, if_neg h, if_neg (fun c => c h2), if_neg h3, if_neg h4]

theorem absI_nonneg (a : Int) : 0 ≤ absI a := by unfold absI; split <;> omega
theorem absI_le {a : Int} (h : validB a = true) : absI a ≤ 17592186044416 := by
  rw [validB_iff] at h; unfold absI; split <;> omega

theorem mul_bound {x y : Int} (h0 : 0 ≤ x) (h1 : x ≤ 17592186044416) (k0 : 0 ≤ y) (k1 : y ≤ 17592186044416) : 0 ≤ x * y ∧ x * y ≤ 17592186044416 * 17592186044416 :=
  ⟨Int.mul_nonneg h0 k0, Int.mul_le_mul h1 k1 k0 (by omega)⟩

/-- the result of md is a valid amount -/
theorem md_valid (a num den m : Int) : -17592186044416 ≤ (md a num den m).1 ∧ (md a num den m).1 ≤ 17592186044416 ∧ 0 ≤ (md a num den m).2 ∧ (md a num den m).2 ≤ 11 := by
  by_cases h : m < 1 ∨ 5 < m
  · rw [md_mode h]; simp
  by_cases h2' : ¬ (validB a = true ∧ factorB num = true ∧ factorB den = true)
  · rw [md_range h h2']; simp
  have h2 := Classical.not_not.1 h2'
  by_cases h3 : den = 0
  · rw [md_zero h h2 h3]; simp
  by_cases h4 : 17592186044416 < mag a num den m
  · rw [md_over h h2 h3 h4]; simp
  rw [md_ok h h2 h3 h4]
  have hn := absI_nonneg a
  have hnum := (factorB_iff num).1 h2.2.1
  have hden := (factorB_iff den).1 h2.2.2
  have : 0 ≤ absI a * num / den := Int.ediv_nonneg (Int.mul_nonneg hn hnum.1) hden.1
  have : 0 ≤ mag a num den m := by unfold mag; split <;> omega
  refine ⟨?_, ?_, by simp, by simp⟩ <;> simp only <;> split <;> omega
end Go.Proofs.YtbeikfopneeodaaGreat.Am
namespace Go.Proofs.YtbeikfopneeodaaGreat

/-- the first code that is not 0, from place i on, k places -/
def scan (c : Nat → Int) : Nat → Nat → Int
  | 0, _ => 0
  | k + 1, i => if c i = 0 then scan c k (i + 1) else c i

theorem scan_stop (c : Nat → Int) {n i : Nat} (h : i < n) (hc : c i ≠ 0) : scan c (n - i) i = c i := by
  obtain ⟨k, hk⟩ : ∃ k, n - i = k + 1 := ⟨n - i - 1, by omega⟩
  rw [hk, scan, if_neg hc]
theorem scan_go (c : Nat → Int) {n i : Nat} (h : i < n) (hc : c i = 0) : scan c (n - i) i = scan c (n - (i + 1)) (i + 1) := by
  obtain ⟨k, hk⟩ : ∃ k, n - i = k + 1 := ⟨n - i - 1, by omega⟩
  rw [hk, scan, if_pos hc, show n - (i + 1) = k by omega]
theorem scan_end (c : Nat → Int) (n : Nat) : scan c (n - n) n = 0 := by rw [Nat.sub_self]; rfl

/-- no fault: every place is fine -/
theorem scan_zero (c : Nat → Int) (k i : Nat) (h : scan c k i = 0) : ∀ j, i ≤ j → j < i + k → c j = 0 := by
  induction k generalizing i with
  | zero => intro j h1 h2; omega
  | succ k ih =>
    intro j h1 h2
    by_cases hc : c i = 0
    · rw [scan, if_pos hc] at h
      by_cases e : j = i
      · rw [e]; exact hc
      · exact ih (i + 1) h j (by omega) (by omega)
    · rw [scan, if_neg hc] at h
      exact absurd h hc
theorem scan_fine (c : Nat → Int) (k i : Nat) (h : ∀ j, i ≤ j → j < i + k → c j = 0) : scan c k i = 0 := by
  induction k generalizing i with
  | zero => rfl
  | succ k ih => rw [scan, if_pos (h i (by omega) (by omega))]; exact ih (i + 1) fun j h1 h2 => h j (by omega) (by omega)
theorem scan_congr (c d : Nat → Int) (k i : Nat) (h : ∀ j, i ≤ j → j < i + k → c j = d j) : scan c k i = scan d k i := by
  induction k generalizing i with
  | zero => rfl
  | succ k ih => rw [scan, scan, h i (by omega) (by omega), ih (i + 1) fun j h1 h2 => h j (by omega) (by omega)]
end Go.Proofs.YtbeikfopneeodaaGreat
namespace Go.Proofs.YtbeikfopneeodaaGreat.Ex

def lim (n : Int) : Int := max 0 (min n 17592186044416)
def layer (a r l : Int) : Int := min (lim l) (max 0 (lim a - lim r))
theorem lim_bound (n : Int) : 0 ≤ lim n ∧ lim n ≤ 17592186044416 := by unfold lim; omega
theorem layer_bound (a r l : Int) : 0 ≤ layer a r l ∧ layer a r l ≤ 17592186044416 := by
  have h1 := lim_bound a
  have h2 := lim_bound r
  have h3 := lim_bound l
  unfold layer
  omega

def amt (n : Int) : Prop := 0 ≤ n ∧ n ≤ 17592186044416
instance (n : Int) : Decidable (amt n) := inferInstanceAs (Decidable (_ ∧ _))

/-- the faults of a tower -/
def tc1 (r l : Nat → Int) (i : Nat) : Int := if amt (r i) ∧ amt (l i) then 0 else 1
def tc2 (r l : Nat → Int) (i : Nat) : Int := if 0 < i ∧ r i < r (i - 1) + l (i - 1) then 13 else 0
def terr (a : Int) (n : Nat) (r l : Nat → Int) : Int :=
  if 64 < n then 4 else if ¬ amt a then 1 else if scan (tc1 r l) n 0 ≠ 0 then 1 else scan (tc2 r l) n 0

def hourP (h : Int) : Prop := 0 ≤ h ∧ h ≤ 876599
instance (n : Int) : Decidable (hourP n) := inferInstanceAs (Decidable (_ ∧ _))
def idxP (h : Int) : Prop := 1 ≤ h ∧ h ≤ 1000000000
instance (n : Int) : Decidable (idxP n) := inferInstanceAs (Decidable (_ ∧ _))

/-- the faults of a table -/
def ic (f g : Nat → Int) (i : Nat) : Int := if ¬ (hourP (f i) ∧ idxP (g i)) then 1 else if 0 < i ∧ f i ≤ f (i - 1) then 13 else 0
def ierr (n : Nat) (f g : Nat → Int) : Int := if 100 < n then 4 else scan (ic f g) n 0

/-- the value at an hour, of the first i rows -/
def st (f g : Nat → Int) (h : Int) : Nat → Int × Int
  | 0 => (0, 19)
  | i + 1 => if f i ≤ h then (g i, 0) else st f g h i
def at' (n : Nat) (f g : Nat → Int) (h : Int) : Int × Int :=
  if ierr n f g ≠ 0 then (0, ierr n f g) else if ¬ hourP h then (0, 1) else st f g h n

theorem st_cases (f g : Nat → Int) (h : Int) (i : Nat) (hg : ∀ j, j < i → idxP (g j)) : st f g h i = (0, 19) ∨ idxP (st f g h i).1 ∧ (st f g h i).2 = 0 := by
  induction i with
  | zero => exact .inl rfl
  | succ i ih =>
    rw [st]
    split
    · exact .inr ⟨hg i (by omega), rfl⟩
    · exact ih fun j hj => hg j (by omega)

theorem ierr_fine {n : Nat} {f g : Nat → Int} (h : ierr n f g = 0) : n ≤ 100 ∧ ∀ j, j < n → hourP (f j) ∧ idxP (g j) := by
  unfold ierr at h
  split at h
  · omega
  · refine ⟨by omega, fun j hj => ?_⟩
    have := scan_zero _ _ _ h j (by omega) (by omega)
    unfold ic at this
    by_cases c : hourP (f j) ∧ idxP (g j)
    · exact c
    · rw [if_pos c] at this; omega

theorem at_cases (n : Nat) (f g : Nat → Int) (h : Int) : (at' n f g h).1 = 0 ∧ (at' n f g h).2 ≠ 0 ∨ idxP (at' n f g h).1 ∧ (at' n f g h).2 = 0 := by
  unfold at'
  by_cases c : ierr n f g = 0
  · rw [if_neg (by simp [c])]
    split
    · exact .inl ⟨rfl, by simp⟩
    · rcases st_cases f g h n (fun j hj => ((ierr_fine c).2 j hj).2) with e | e
      · rw [e]; exact .inl ⟨rfl, by simp⟩
      · exact .inr e
  · rw [if_pos c]; exact .inl ⟨rfl, c⟩

def psum (f : Nat → Int) : Nat → Int
  | 0 => 0
  | i + 1 => psum f i + f i
theorem psum_bound (f : Nat → Int) (M : Int) (i : Nat) (h : ∀ j, j < i → 0 ≤ f j ∧ f j ≤ M) : 0 ≤ psum f i ∧ psum f i ≤ M * i := by
  induction i with
  | zero => simp [psum]
  | succ i ih =>
    have h1 := ih fun j hj => h j (by omega)
    have h2 := h i (by omega)
    rw [psum, show M * ((i + 1 : Nat) : Int) = M * i + M by rw [Int.natCast_succ, Int.mul_add, Int.mul_one]]
    omega

/-- the faults of payments: hours p, amounts q -/
def dmd (base : Int) (n : Nat) (f g p q : Nat → Int) (i : Nat) : Int × Int := Am.md (q i) base (at' n f g (p i)).1 4
def sc (base : Int) (n : Nat) (f g p q : Nat → Int) (i : Nat) : Int :=
  if ¬ (0 ≤ q i ∧ q i ≤ 1073741824) then 1 else if (at' n f g (p i)).2 ≠ 0 then (at' n f g (p i)).2 else (dmd base n f g p q i).2
def defl (base : Int) (n : Nat) (f g p q : Nat → Int) (i : Nat) : Int := psum (fun j => (dmd base n f g p q j).1) i
def stab (base : Int) (n : Nat) (f g : Nat → Int) (m : Nat) (p q : Nat → Int) : Int × Int :=
  if ierr n f g ≠ 0 then (0, ierr n f g) else if ¬ idxP base then (0, 1) else if 64 < m then (0, 4)
  else if scan (sc base n f g p q) m 0 ≠ 0 then (0, scan (sc base n f g p q) m 0)
  else if defl base n f g p q m = 0 then (0, 2) else if 17592186044416 < defl base n f g p q m then (0, 3)
  else Am.md 1000000 (psum q m) (defl base n f g p q m) 4
end Go.Proofs.YtbeikfopneeodaaGreat.Ex
