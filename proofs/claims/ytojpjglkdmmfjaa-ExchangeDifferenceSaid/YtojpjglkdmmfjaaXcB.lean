/- slices.Backward over rates: what it hands to the loop, from the last element to the first. -/
import Derived.Test.YtojpjglkdmmfjaaXcA
import Derived.RangeFuncNested
import Derived.RangeFuncBound
import Derived.RangeFuncCalls
import Derived.RangeFuncLeaves
import Derived.RangeFuncBox
import Derived.Shelf.Abstract
import Derived.WalkKit
import Derived.OwnWalkIn
import Derived.TacticsInMore
import Derived.LoopNIn
import Derived.LoopIn
namespace Go.Proofs.Ytojpjglkdmmfjaa
open Go.RowKit Go.Shelf
set_option linter.unusedVariables false
attribute [local go_sem] Oper.semAt_some

/-- what has come after k rounds -/
def upto {α : Type} (f : Nat → α) (k : Nat) : List α := (List.range k).map f
theorem upto_succ {α : Type} (f : Nat → α) (k : Nat) : upto f (k + 1) = upto f k ++ [f k] := by simp [upto, List.range_succ]
theorem upto_length {α : Type} (f : Nat → α) (k : Nat) : (upto f k).length = k := by simp [upto]

def ncs (x : Int × T3) : Array Value := #[.int .i64 x.1, .agg #[.int .i64 x.2.a, .int .i64 x.2.b, .int .i64 x.2.c]]
def bk (n : Nat) (f : Nat → T3) (k : Nat) : Int × T3 := (((n - 1 - k : Nat) : Int), f (n - 1 - k))

set_option maxRecDepth 100000 in
set_option maxHeartbeats 2000000 in
theorem back1_in (F : Fence) (n : Nat) (h7 : F.fn 51) (hro : F.round = none) (hn : 1 ≤ n) (l Bs n₀ len cap : Nat) (A : Option Addr) (f : Nat → T3) (hlen : len ≤ 1000) (hBs : Bs < n₀) (J Jx : List (Int × T3) → World → Prop)
    (hY : ∀ pre x W, J pre W → pre.length < len → YieldAt F (n - 1) Try.prog l (ncs x) W fun e W' =>
      (e = .returned (.bool true) ∧ J (pre ++ [x]) W' ∧ Below n₀ W W') ∨ (e = .returned (.bool false) ∧ Jx (pre ++ [x]) W'))
    (W : World) (hcs : W.cell? ⟨Bs, 0, none⟩ = some (.slice A len cap)) (hT : Trips W n₀ A len f) (h0 : J [] W) :
    CallsIn F n Try.prog 51 #[.func (.yield l) #[] #[], .pointer (some ⟨Bs, 0, none⟩)] W fun e W' => (∃ v, e = .returned v) ∧
      ((∃ ys, ys = upto (bk len f) len ∧ J ys W') ∨ (∃ pre, (∃ k, k ≤ len ∧ pre = upto (bk len f) k) ∧ Jx pre W')) := by
  have HT := Lib.hid hT
  clear hT
  refine callsIn_of_wp Try.func51 rfl h7 ?_ hro
  simp only [Try.ntmps51, List.size_toArray, List.length_cons, List.length_nil, Nat.reduceAdd, Nat.reduceSub, Array.replicate_succ, Array.replicate_zero, List.push_toArray, List.append_toArray, List.nil_append, List.cons_append]
  gi_wp2
  gi_loopw [3] (fun i wr => ∃ k : Nat, k ≤ len ∧ i = .int .i64 ((len : Int) - 1 - (k : Int)) ∧ J (upto (bk len f) k) wr ∧ Below n₀ W wr)
    (fun i _ => (intOf i + 1).toNat)
  case atStart => exact ⟨0, Nat.zero_le _, by simp, h0, Below.refl _ _⟩
  case round =>
    obtain ⟨k, hk, rfl, hJs, hnx⟩ := hrel
    have hbs := (hnx.cell (p := ⟨Bs, 0, none⟩) hBs).trans hcs
    by_cases hlt : k < len
    · obtain ⟨j, hj⟩ : ∃ j : Nat, len = j + 1 + k := ⟨len - 1 - k, by omega⟩
      have hji : (len : Int) - 1 - (k : Int) = (j : Int) := by omega
      have hbk : bk len f k = ((j : Int), f j) := by unfold bk; rw [show len - 1 - k = j by omega]
      obtain ⟨b, o, rfl, hb, c0, c1, c2⟩ := (HT.out.below hnx).get (j := j) (by omega)
      obtain ⟨⟨x, y, z⟩, hx⟩ : ∃ t, f j = t := ⟨_, rfl⟩
      rw [hx] at hbk c0 c1 c2
      simp only at c0 c1 c2
      obtain ⟨fn, tmps, assign, body, hy, hR⟩ := hY _ ((j : Int), ⟨x, y, z⟩) wr hJs (by rw [upto_length]; exact hlt)
      unfold ncs at hy
      dsimp only at hy
      rw [hji]
      have hj0 : (0 : Int) ≤ j := by omega
      have hj1 : (j : Int) < len := by omega
      have HJ := Lib.hid hj
      have HBK := Lib.hid hbk
      clear hj hji hx hbk
      gi_wp2
      refine hR.mono ?_
      rintro e W3 (⟨rfl, hJ3, hk3⟩ | ⟨rfl, hJx3⟩)
      · gi_wp2
        go_roundw
        case rel => exact ⟨k + 1, by omega, by congr 1; have := HJ.out; omega, by rw [upto_succ, HBK.out]; exact hJ3, hnx.trans hk3⟩
        case measure => simp [intOf]
      · gi_wp2
        refine bodyPost_ret (results_none rfl _ _ _) rfl ?_
        exact ⟨⟨_, rfl⟩, .inr ⟨_, ⟨k + 1, by omega, by rw [upto_succ, HBK.out]⟩, hJx3⟩⟩
    · obtain rfl : k = len := by omega
      rw [show (k : Int) - 1 - (k : Int) = -1 by omega]
      gi_wp2
      go_end0
      exact ⟨⟨_, rfl⟩, .inl ⟨_, rfl, hJs⟩⟩

set_option maxHeartbeats 1000000 in
theorem back_in (F : Fence) (n : Nat) (h5 : F.fn 42) (hro : F.round = none) (a : Option Addr) (len cap : Nat) (w : World) :
    CallsIn F n Try.prog 42 #[.slice a len cap] w fun e w' => e = .returned (.func (.func 51) #[] #[.pointer (some ⟨w.heap.size, 0, none⟩)]) ∧ w' = w.alloc (.cells #[.slice a len cap] 25) := by
  refine callsIn_of_wp Try.func42 rfl h5 ?_ hro
  simp only [Try.ntmps42, List.size_toArray, List.length_cons, List.length_nil, Nat.reduceAdd, Nat.reduceSub, Array.replicate_succ, Array.replicate_zero, List.push_toArray, List.append_toArray, List.nil_append, List.cons_append]
  gi_wp2
  go_ret
  exact ⟨rfl, rfl⟩

theorem back_stops (F : Fence) (n : Nat) (h7 : F.fn 51) (hro : F.round = none) (hn : 1 ≤ n) (Bs n₀ len cap : Nat) (A : Option Addr) (f : Nat → T3) (hlen : len ≤ 1000) (w : World) (hBs : Bs < n₀) (hn₀ : n₀ ≤ w.heap.size)
    (hc : w.cell? ⟨Bs, 0, none⟩ = some (.slice A len cap)) (hT : Trips w n₀ A len f) :
    SeqStopsK F n Try.prog 51 #[.pointer (some ⟨Bs, 0, none⟩)] ncs (Below n₀) (fun ys => ys = upto (bk len f) len) (fun pre => ∃ k, k ≤ len ∧ pre = upto (bk len f) k) len w := fun l J Jx W hW _ _ hY h0 =>
  back1_in F n h7 hro hn l Bs n₀ len cap A f hlen hBs J Jx hY W ((hW.cell (p := ⟨Bs, 0, none⟩) (by show Bs < _; omega)).trans hc) (hT.below (hW.mono hn₀)) h0
end Go.Proofs.Ytojpjglkdmmfjaa
