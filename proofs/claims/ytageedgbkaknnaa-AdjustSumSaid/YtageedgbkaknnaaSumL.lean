/- What the law AdjustSum is told of its arguments, and the list that it makes. -/
import Derived.Test.YtageedgbkaknnaaSumR
import Derived.Test.YtageedgbkaknnaaArgs
import Derived.Test.YtageedgbkaknnaaMade16
import Derived.Test.YtageedgbkaknnaaAdjUse
import Derived.Test.YtageedgbkaknnaaAwake16
import Derived.Test.YtageedgbkaknnaaOwnN
import Derived.Deep.AppendLies
namespace Go.Proofs.Ytageedgbkaknnaa
open Go.RowKit
set_option linter.unusedVariables false

theorem rd_adjs {w : World} {v : Value} (h : Rd42 w [v]) : ∃ (A : Option Addr) (n c : Nat) (f : Nat → Int), v = .slice A n c ∧ n ≤ 9223372036854775807 ∧ Nums w w.heap.size A (n * 9) f := by
  rcases h with h | ⟨a, len, cap, h, h1, h2, h3⟩
  · injection h with h
    exact ⟨none, 0, 0, fun _ => 0, h, by omega, Cells.zero⟩
  · injection h with h
    obtain ⟨f, hc, hp⟩ := cells_of (n := len) (k := 9) (P := IsI64) fun i hi => by
      obtain ⟨cs, hl, hcc, v0, v1, v2, v3, v4, v5, v6, v7, v8, hv, r0, r1, r2, r3, r4, r5, r6, r7, r8⟩ := h3 i (by omega)
      refine ⟨cs, hl, hcc, fun v hv' => ?_⟩
      rw [hv] at hv'
      simp only [List.mem_cons, List.not_mem_nil, or_false] at hv'
      rcases hv' with rfl | rfl | rfl | rfl | rfl | rfl | rfl | rfl | rfl
      · exact rd_i64 r0
      · exact rd_i64 r1
      · exact rd_i64 r2
      · exact rd_i64 r3
      · exact rd_i64 r4
      · exact rd_i64 r5
      · exact rd_i64 r6
      · exact rd_i64 r7
      · exact rd_i64 r8
    obtain ⟨z, hz, _⟩ := cells_ints hc hp
    exact ⟨some a, len, cap, z, h, by unfold maxLen at h2; omega, hz⟩

/-- a value that is a list of numbers -/
def IsNums (w : World) (v : Value) : Prop := ∃ (A : Option Addr) (n c : Nat) (z : Nat → Int), v = .slice A n c ∧ n ≤ 9223372036854775807 ∧ Cells w w.heap.size A n (fun j => .int .i64 (z j))
theorem rd_lists {w : World} {v : Value} (h : Rd43 w [v]) : ∃ (A : Option Addr) (n c : Nat) (F : Nat → Value), v = .slice A n c ∧ n ≤ 9223372036854775807 ∧ Cells w w.heap.size A n F ∧ ∀ j, j < n → IsNums w (F j) := by
  rcases h with h | ⟨a, len, cap, h, h1, h2, h3⟩
  · injection h with h
    exact ⟨none, 0, 0, fun _ => .bool false, h, by omega, Cells.zero, fun j hj => absurd hj (by omega)⟩
  · injection h with h
    obtain ⟨f, hc, hp⟩ := cells_of (n := len) (k := 1) (P := IsNums w) fun i hi => by
      obtain ⟨cs, hl, hcc, hr⟩ := h3 i (by omega)
      match cs, hl with
      | [v], _ =>
        refine ⟨[v], rfl, hcc, fun u hu => ?_⟩
        simp only [List.mem_cons, List.not_mem_nil, or_false] at hu
        subst hu
        obtain ⟨A, n, c, z, e, hn, _, _, hz, _⟩ := rd_ints hr
        exact ⟨A, n, c, z, e, hn, hz⟩
    rw [Nat.mul_one] at hc hp
    exact ⟨some a, len, cap, f, h, by unfold maxLen at h2; omega, hc, hp⟩

/-- nine numbers more -/
def more9 (k : Nat) (F : Nat → Int) (l : List Int) (i : Nat) : Int := if i < k * 9 then F i else l.getD (i - k * 9) 0
theorem numsL_nine (k : Nat) (F : Nat → Int) (x0 x1 x2 x3 x4 x5 x6 x7 x8 : Int) : numsL (k * 9) F ++ [.int .i64 x0, .int .i64 x1, .int .i64 x2, .int .i64 x3, .int .i64 x4, .int .i64 x5, .int .i64 x6, .int .i64 x7, .int .i64 x8] = numsL ((k + 1) * 9) (more9 k F [x0, x1, x2, x3, x4, x5, x6, x7, x8]) := by
  apply List.ext_getElem
  · simp [numsL]; omega
  · intro i h1 h2
    have hi : i < (k + 1) * 9 := by simpa [numsL] using h2
    have e2 : (numsL ((k + 1) * 9) (more9 k F [x0, x1, x2, x3, x4, x5, x6, x7, x8]))[i]? = some (.int .i64 (more9 k F [x0, x1, x2, x3, x4, x5, x6, x7, x8] i)) := numsL_get _ _ _ hi
    rw [List.getElem?_eq_getElem h2] at e2
    injection e2 with e2
    rw [e2]
    by_cases c : i < k * 9
    · rw [List.getElem_append_left (by rw [numsL_length]; exact c)]
      have e3 := numsL_get (k * 9) F i c
      rw [List.getElem?_eq_getElem (by rw [numsL_length]; exact c)] at e3
      injection e3 with e3
      rw [e3, more9, if_pos c]
    · rw [List.getElem_append_right (by rw [numsL_length]; omega)]
      obtain ⟨t, rfl⟩ : ∃ t, i = k * 9 + t := ⟨i - k * 9, by omega⟩
      simp only [numsL_length, more9, if_neg c, show k * 9 + t - k * 9 = t by omega]
      match t, hi with
      | 0, _ | 1, _ | 2, _ | 3, _ | 4, _ | 5, _ | 6, _ | 7, _ | 8, _ => rfl
      | t + 9, h => omega

/-- what stands while the list is made: the two sums of the first list -/
structure SmSt (w : World) (BA BB base : Nat) (r : Array Value) (W : World) : Prop where
  ha : Has W BA r 28
  hb : Has W BB r 28
  bl : Below w.heap.size w W
  la : BA < base
  lb : BB < base
  wb : w.heap.size ≤ base
  bs : base ≤ W.heap.size
theorem SmSt.over {w W W' : World} {BA BB base : Nat} {r : Array Value} (h : SmSt w BA BB base r W) (hb : Below base W W') : SmSt w BA BB base r W' :=
  ⟨h.ha.below hb h.la, h.hb.below hb h.lb, h.bl.trans (hb.mono h.wb), h.la, h.lb, h.wb, Nat.le_trans h.bs hb.size⟩
theorem SmSt.next {w W W' : World} {BA BB base : Nat} {r : Array Value} (h : SmSt w BA BB base r W) (hb : Below W.heap.size W W') : SmSt w BA BB base r W' := h.over (hb.mono h.bs)

/-- Sum's answer, in letters -/
def NinePost (r0 r1 r2 r3 r4 r5 r6 r7 r8 er : Int) (W : World) (e : Ending) (w' : World) : Prop := e = .returned (.tuple #[.agg #[.int .i64 r0, .int .i64 r1, .int .i64 r2, .int .i64 r3, .int .i64 r4, .int .i64 r5, .int .i64 r6, .int .i64 r7, .int .i64 r8], .int .i64 er]) ∧ Below W.heap.size W w'
theorem nine_c (A : Option Addr) (n c : Nat) (f : Nat → Int) (hn : n ≤ 9223372036854775807) : ∃ r0 r1 r2 r3 r4 r5 r6 r7 r8 er : Int,
    Hid (∀ W : World, Nums W W.heap.size A (n * 9) f → Calls Try.prog 15 #[.slice A n c] W (NinePost r0 r1 r2 r3 r4 r5 r6 r7 r8 er W)) ∧
    Hid (∀ W : World, Nums W W.heap.size A (n * 9) f → Calls Try.prog 16 #[.slice A n c] W (NinePost r0 r1 r2 r3 r4 r5 r6 r7 r8 er W)) :=
  ⟨Ad.sres n f 0, Ad.sres n f 1, Ad.sres n f 2, Ad.sres n f 3, Ad.sres n f 4, Ad.sres n f 5, Ad.sres n f 6, Ad.sres n f 7, Ad.sres n f 8, Ad.serr n f,
    Lib.hid fun W h => asum_any A n c f W hn h, Lib.hid fun W h => rsum_any A n c f W hn h⟩

set_option maxRecDepth 100000 in
theorem adj_full : (Try.prog.info? 28).map (fun i => (i.zero, i.size, i.bytes)) = some (some (.agg #[.int .i64 0, .int .i64 0, .int .i64 0, .int .i64 0, .int .i64 0, .int .i64 0, .int .i64 0, .int .i64 0, .int .i64 0]), 9, 72) := by kernel_rfl
end Go.Proofs.Ytageedgbkaknnaa
