/- awake of layer 39: the examples of the chapter. -/
import Derived.Test.YtdfajopniflaaaaReSo
namespace Go.Proofs.Ytdfajopniflaaaa
open Go.RowKit
set_option linter.unusedVariables false

namespace Re
def o1 (i : Nat) : Int := if i = 0 then 100 else 0
def R1 (j : Nat) : Rt := if j = 0 then ⟨0, 1, 500000, 0, 1000⟩ else ⟨1, 0, 500000, 0, 1000⟩
def o2 (_ : Nat) : Int := 0
def R2 (j : Nat) : Rt := if j = 0 then ⟨0, 1, 1000000, 0, 50⟩ else ⟨1, 0, 1000000, 0, 50⟩
set_option maxRecDepth 100000 in
theorem aw_v1 : verr 2 o1 2 R1 = 0 := by decide +kernel
set_option maxRecDepth 100000 in
theorem aw_v2 : verr 2 o2 2 R2 = 0 := by decide +kernel
set_option maxRecDepth 100000 in
theorem aw_b1 : both 0 (least 2 o1 2 R1) (greatest 2 o1 2 R1) := by decide +kernel
set_option maxRecDepth 100000 in
theorem aw_b2 : both 0 (least 2 o2 2 R2) (greatest 2 o2 2 R2) := by decide +kernel
set_option maxRecDepth 100000 in
theorem aw_s1 : cst 2 0 (least 2 o1 2 R1) (greatest 2 o1 2 R1) = 1 := by decide +kernel
set_option maxRecDepth 100000 in
theorem aw_s2 : cst 2 0 (least 2 o2 2 R2) (greatest 2 o2 2 R2) = 2 := by decide +kernel
set_option maxRecDepth 100000 in
theorem aw_l1 : eqn 2 (lst (least 2 o1 2 R1)) (fun i => if i = 0 then 133 else 66) := by decide +kernel
set_option maxRecDepth 100000 in
theorem aw_g2 : eqn 2 (lst (greatest 2 o2 2 R2)) (fun _ => 50) := by decide +kernel
end Re

theorem Has.nums2 {w : World} {b : Nat} {x y : Int} {t : TypeId} {f : Nat → Int} (h : Has w b #[.int .i64 x, .int .i64 y] t) (h0 : f 0 = x) (h1 : f 1 = y) : Nums w w.heap.size (some ⟨b, 0, none⟩) 2 f := fun _ => ⟨_, rfl, h.lt, fun j hj => by
  rw [Go.WideShapes.add_plain, Nat.zero_add, h.cell]
  match j, hj with
  | 0, _ => simp only [h0]; rfl
  | 1, _ => simp only [h1]; rfl⟩
theorem Has.rets2 {w : World} {b : Nat} {r s : Re.Rt} {t : TypeId} {R : Nat → Re.Rt} (h : Has w b #[.int .i64 r.fr, .int .i64 r.ds, .int .i64 r.sh, .int .i64 r.re, .int .i64 r.li, .int .i64 s.fr, .int .i64 s.ds, .int .i64 s.sh, .int .i64 s.re, .int .i64 s.li] t) (h0 : R 0 = r) (h1 : R 1 = s) : Rets w w.heap.size (some ⟨b, 0, none⟩) 2 R := fun _ => ⟨_, rfl, h.lt, fun j hj => by
  rw [Go.WideShapes.add_plain, Nat.zero_add, h.cell]
  match j, hj with
  | 0, _ => simp only [Nat.zero_div, h0]; rfl
  | 1, _ => simp only [show 1 / 5 = 0 from rfl, h0]; rfl
  | 2, _ => simp only [show 2 / 5 = 0 from rfl, h0]; rfl
  | 3, _ => simp only [show 3 / 5 = 0 from rfl, h0]; rfl
  | 4, _ => simp only [show 4 / 5 = 0 from rfl, h0]; rfl
  | 5, _ => simp only [show 5 / 5 = 1 from rfl, h1]; rfl
  | 6, _ => simp only [show 6 / 5 = 1 from rfl, h1]; rfl
  | 7, _ => simp only [show 7 / 5 = 1 from rfl, h1]; rfl
  | 8, _ => simp only [show 8 / 5 = 1 from rfl, h1]; rfl
  | 9, _ => simp only [show 9 / 5 = 1 from rfl, h1]; rfl⟩

/-- what Solve returns at the first example -/
theorem solve1 (W : World) (A A2 : Option Addr) (h : Nums W W.heap.size A 2 Re.o1) (h2 : Rets W W.heap.size A2 2 Re.R1) : Calls Try.prog 16 #[.slice A 2 2, .slice A2 2 2] W fun e w' =>
    ∃ (X Y : Option Addr) (cx cy : Nat) (r0 r1 : Int), e = .returned (.tuple #[.agg #[.int .i64 1, .slice X 2 cx, .slice Y 2 cy, .int .i64 r0, .int .i64 r1], .int .i64 0]) ∧ Below W.heap.size W w' ∧ Nums w' w'.heap.size X 2 (fun i => if i = 0 then 133 else 66) := by
  refine (solve_any A 2 2 Re.o1 A2 2 2 Re.R1 W (by omega) (by omega) h h2).mono ?_
  rw [Re.aw_v1]
  rintro e w1 ⟨X, Y, mm, cx, cy, rfl, hb, hmm, hx, hy⟩
  rw [if_pos Re.aw_b1] at hmm
  subst hmm
  rw [Re.aw_s1]
  exact ⟨X, Y, cx, cy, _, _, rfl, hb, hx.congr Re.aw_l1⟩
theorem solve2 (W : World) (A A2 : Option Addr) (h : Nums W W.heap.size A 2 Re.o2) (h2 : Rets W W.heap.size A2 2 Re.R2) : Calls Try.prog 16 #[.slice A 2 2, .slice A2 2 2] W fun e w' =>
    ∃ (X Y : Option Addr) (cx cy : Nat) (r0 r1 : Int), e = .returned (.tuple #[.agg #[.int .i64 2, .slice X 2 cx, .slice Y 2 cy, .int .i64 r0, .int .i64 r1], .int .i64 0]) ∧ Below W.heap.size W w' ∧ Nums w' w'.heap.size Y 2 (fun _ => 50) := by
  refine (solve_any A 2 2 Re.o2 A2 2 2 Re.R2 W (by omega) (by omega) h h2).mono ?_
  rw [Re.aw_v2]
  rintro e w1 ⟨X, Y, mm, cx, cy, rfl, hb, hmm, hx, hy⟩
  rw [if_pos Re.aw_b2] at hmm
  subst hmm
  rw [Re.aw_s2]
  exact ⟨X, Y, cx, cy, _, _, rfl, hb, hy.congr Re.aw_g2⟩

set_option maxHeartbeats 2000000 in
theorem awake39_any (w : World) : Calls Try.prog 9 #[] w fun e w' => e = .returned (.bool true) ∧ Below w.heap.size w w' := by
  go_enter Try.func9, Try.ntmps9
  go_wp2_with fail
  refine (solve1 _ _ _ (Has.nums2 ((Has.new w _ _).alloc _) rfl rfl) (Has.rets2 (r := ⟨0, 1, 500000, 0, 1000⟩) (s := ⟨1, 0, 500000, 0, 1000⟩) (Has.new' (w.alloc _) _ _ _ (by simp)) rfl rfl)).mono ?_
  rintro e w1 ⟨X, Y, cx, cy, r0, r1, rfl, hb, hx⟩
  have HB : Hid (Below w.heap.size w w1) := Lib.hid ((((Below.refl _ _).alloc (Nat.le_refl _) _).alloc (by simp) _).trans (hb.mono (by simp <;> omega)))
  have HX := Lib.hid hx
  clear hb hx
  have hs1 := HB.out.size
  obtain ⟨W1, hW1⟩ : ∃ W, w1.alloc (.cells #[.int .i64 1, .slice X 2 cx, .slice Y 2 cy, .int .i64 r0, .int .i64 r1] 36) = W := ⟨_, rfl⟩
  have HC1 : Hid (Has W1 w1.heap.size #[.int .i64 1, .slice X 2 cx, .slice Y 2 cy, .int .i64 r0, .int .i64 r1] 36) := Lib.hid (by rw [← hW1]; exact Has.new w1 _ _)
  replace HB : Hid (Below w.heap.size w W1) := Lib.hid (by rw [← hW1]; exact HB.out.alloc hs1 _)
  replace HX : Hid (Nums W1 W1.heap.size X 2 (fun i => if i = 0 then 133 else 66)) := Lib.hid (by rw [← hW1]; exact Nums.mono (HX.out.alloc (Nat.le_refl _) _) (by simp))
  obtain ⟨b1, hb1⟩ : ∃ b, w1.heap.size = b := ⟨_, rfl⟩
  rw [hb1] at HC1 hs1
  go_wp2_with fail
  clear hW1 hb1
  refine (solve2 _ _ _ (Has.nums2 ((Has.new W1 _ _).alloc _) rfl rfl) (Has.rets2 (r := ⟨0, 1, 1000000, 0, 50⟩) (s := ⟨1, 0, 1000000, 0, 50⟩) (Has.new' (W1.alloc _) _ _ _ (by simp)) rfl rfl)).mono ?_
  rintro e w2 ⟨X2, Y2, cx2, cy2, q0, q1, rfl, hb, hy⟩
  have hbb : Below W1.heap.size W1 w2 := ((((Below.refl _ _).alloc (Nat.le_refl _) _).alloc (by simp) _).trans (hb.mono (by simp <;> omega)))
  replace HC1 := Lib.hid (HC1.out.below hbb HC1.out.lt)
  replace HX := Lib.hid ((HX.out.below hbb).mono hbb.size)
  replace HB : Hid (Below w.heap.size w w2) := Lib.hid (HB.out.trans (hbb.mono HB.out.size))
  have HY := Lib.hid hy
  clear hb hbb hy
  have hs2 := HB.out.size
  obtain ⟨W2, hW2⟩ : ∃ W, w2.alloc (.cells #[.int .i64 2, .slice X2 2 cx2, .slice Y2 2 cy2, .int .i64 q0, .int .i64 q1] 36) = W := ⟨_, rfl⟩
  have HC2 : Hid (Has W2 w2.heap.size #[.int .i64 2, .slice X2 2 cx2, .slice Y2 2 cy2, .int .i64 q0, .int .i64 q1] 36) := Lib.hid (by rw [← hW2]; exact Has.new w2 _ _)
  replace HC1 : Hid (Has W2 b1 #[.int .i64 1, .slice X 2 cx, .slice Y 2 cy, .int .i64 r0, .int .i64 r1] 36) := Lib.hid (by rw [← hW2]; exact HC1.out.alloc _)
  replace HB : Hid (Below w.heap.size w W2) := Lib.hid (by rw [← hW2]; exact HB.out.alloc hs2 _)
  replace HX : Hid (Nums W2 W2.heap.size X 2 (fun i => if i = 0 then 133 else 66)) := Lib.hid (by rw [← hW2]; exact Nums.mono (HX.out.alloc (Nat.le_refl _) _) (by simp))
  replace HY : Hid (Nums W2 W2.heap.size Y2 2 (fun _ => 50)) := Lib.hid (by rw [← hW2]; exact Nums.mono (HY.out.alloc (Nat.le_refl _) _) (by simp))
  obtain ⟨b2, hb2⟩ : ∃ b, w2.heap.size = b := ⟨_, rfl⟩
  rw [hb2] at HC2
  obtain ⟨d0, d1, d2⟩ := HC1.out.rules
  obtain ⟨e0, e1, e2⟩ := HC2.out.rules
  go_wp2_with fail
  clear hW2 hb2
  refine (same_yes X (some ⟨W2.heap.size, 0, none⟩) 2 cx 2 (fun i => if i = 0 then 133 else 66) W2.heap.size (W2.heap.size + 1) _ (by omega) (HX.out.alloc (Nat.le_refl _) _) (by have := Has.nums2 (f := fun i => if i = 0 then 133 else 66) (Has.new W2 #[.int .i64 133, .int .i64 66] 3) rfl rfl; simpa using this)).mono ?_
  rintro e w3 ⟨rfl, nq, rfl⟩
  go_wp2_with fail
  refine (same_yes Y2 (some ⟨W2.heap.size + 1, 0, none⟩) 2 cy2 2 (fun _ => 50) W2.heap.size (W2.heap.size + 1 + 1) _ (by omega) (Nums.alloc (Nums.drewN (HY.out.alloc (Nat.le_refl _) _) _) (by simp) _) (by have := Has.nums2 (f := fun _ => 50) (Has.new' (((W2.alloc (.cells #[.int .i64 133, .int .i64 66] 3)).drewN nq)) (W2.heap.size + 1) #[.int .i64 50, .int .i64 50] 3 (by simp)) rfl rfl; simpa using this)).mono ?_
  rintro e w4 ⟨rfl, nq2, rfl⟩
  go_wp2_with fail
  go_ret
  exact ⟨rfl, by (repeat' (first | (with_reducible exact HB.out) | (with_reducible refine below_drewN ?_ _) | (with_reducible refine Below.alloc ?_ ?_ _))) <;> (first | omega | exact HB.out.size | (simp; have := HB.out.size; omega))⟩
end Go.Proofs.Ytdfajopniflaaaa
