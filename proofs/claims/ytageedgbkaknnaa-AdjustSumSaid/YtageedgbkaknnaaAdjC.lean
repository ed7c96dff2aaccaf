/- The closures of adjust.Adjust: what each takes from the rest. -/
import Derived.Test.YtageedgbkaknnaaAm
import Derived.Test.YtageedgbkaknnaaShare
import Derived.Test.YtageedgbkaknnaaBlk
import Derived.Laws.EntriesVeiled
namespace Go.Proofs.Ytageedgbkaknnaa
open Go.RowKit

/-- the closure note, over the variable failed in block bf -/
def noteV (bf : Nat) : Value := .func (.func 18) #[] #[.pointer (some ⟨bf, 0, none⟩)]

set_option maxHeartbeats 400000 in
theorem note_ok (n : Int) (bf : Nat) (w : World) :
    Calls Try.prog 18 #[.int .i64 n, .int .i64 0, .pointer (some ⟨bf, 0, none⟩)] w fun e w' => e = .returned (.int .i64 n) ∧ w = w' := by
  go_enter Try.func18, Try.ntmps18
  go_wp2
  go_ret
  exact ⟨rfl, rfl⟩

set_option maxHeartbeats 400000 in
theorem take3_any (r f : Int) (bd br : Nat) (w : World) (h1 : w.cell? ⟨br, 0, none⟩ = some (.int .i64 r)) (h2 : w.cell? ⟨bd, 3, none⟩ = some (.int .i64 f)) :
    Calls Try.prog 21 #[.pointer (some ⟨br, 0, none⟩), .pointer (some ⟨bd, 0, none⟩)] w fun e w' => e = .returned (.int .i64 (if f ≤ r then 0 else r)) ∧ w = w' := by
  by_cases h : f ≤ r
  · rw [if_pos h]
    go_enter Try.func21, Try.ntmps21
    go_wp2
    go_ret
    exact ⟨rfl, rfl⟩
  · rw [if_neg h]
    go_enter Try.func21, Try.ntmps21
    go_wp2
    go_ret
    exact ⟨rfl, rfl⟩

set_option maxHeartbeats 400000 in
theorem take4_any (r d : Int) (bd br : Nat) (w : World) (h1 : w.cell? ⟨br, 0, none⟩ = some (.int .i64 r)) (h2 : w.cell? ⟨bd, 2, none⟩ = some (.int .i64 d)) :
    Calls Try.prog 22 #[.pointer (some ⟨br, 0, none⟩), .pointer (some ⟨bd, 0, none⟩)] w fun e w' => e = .returned (.int .i64 (min r d)) ∧ w = w' := by
  go_enter Try.func22, Try.ntmps22
  go_wp2
  all_goals (go_ret; refine ⟨?_, rfl⟩; first | rfl | (exact congrArg (fun x => Ending.returned (Value.int IntKind.i64 x)) (by omega)))

set_option maxHeartbeats 400000 in
theorem take6_any (r l : Int) (bd br : Nat) (w : World) (h1 : w.cell? ⟨br, 0, none⟩ = some (.int .i64 r)) (h2 : w.cell? ⟨bd, 1, none⟩ = some (.int .i64 l))
    (r0 : 0 ≤ r) (r1 : r ≤ 1073741824) (l0 : -1 ≤ l) (l1 : l ≤ 1073741824) :
    Calls Try.prog 25 #[.pointer (some ⟨bd, 0, none⟩), .pointer (some ⟨br, 0, none⟩)] w fun e w' => e = .returned (.int .i64 (if l = -1 then 0 else max 0 (r - l))) ∧ w = w' := by
  by_cases h : l = -1
  · rw [if_pos h]
    subst h
    go_enter Try.func25, Try.ntmps25
    go_wp2
    go_ret
    exact ⟨rfl, rfl⟩
  · rw [if_neg h]
    have hb : (l == -1) = false := by rw [beq_eq_false_iff_ne]; exact h
    go_enter Try.func25, Try.ntmps25
    go_wp2
    all_goals (go_ret; refine ⟨?_, rfl⟩; first | rfl | (exact congrArg (fun x => Ending.returned (Value.int IntKind.i64 x)) (by omega)))

set_option maxHeartbeats 1000000 in
theorem take5_any (r c n : Int) (bd br bn bf : Nat) (w : World) (h1 : w.cell? ⟨br, 0, none⟩ = some (.int .i64 r)) (h2 : w.cell? ⟨bd, 4, none⟩ = some (.int .i64 c)) (h3 : w.cell? ⟨bn, 0, none⟩ = some (noteV bf))
    (hmd : Hid (Am.md r c 1000000 4 = (n, 0))) :
    Calls Try.prog 23 #[.pointer (some ⟨bn, 0, none⟩), .pointer (some ⟨br, 0, none⟩), .pointer (some ⟨bd, 0, none⟩)] w fun e w' => e = .returned (.int .i64 n) ∧ ∃ m, w' = w.drewN m := by
  have cs : ∀ W, Calls Try.prog 24 #[.int .i64 r, .int .i64 c, .int .i64 4] W fun e w' => e = .returned (.tuple #[.int .i64 n, .int .i64 0]) ∧ ∃ n, w' = W.drewN n := fun W => by
    have := share_any r c 4 W
    rw [hmd.out] at this
    exact this
  have CS := Lib.hid cs
  clear cs
  unfold noteV at h3
  go_enter Try.func23, Try.ntmps23
  go_wp2
  go_quiet (first | (go_at_call 24; exact Calls.quiet_of (CS.out _)) | (go_at_call 18; exact quiet_left (note_ok _ _ _)))
  go_wp2
  go_ret
  exact ⟨rfl, _, rfl⟩

set_option maxHeartbeats 1000000 in
theorem take2_no (va su : Int) (av : Bool) (bd bx br bn : Nat) (w : World) (h2 : w.cell? ⟨bd, 5, none⟩ = some (.bool av))
    (h3 : w.cell? ⟨bx, 1, none⟩ = some (.int .i64 va)) (h4 : w.cell? ⟨bx, 2, none⟩ = some (.int .i64 su)) (hc : av = false ∨ va ≤ su) :
    Calls Try.prog 19 #[.pointer (some ⟨bd, 0, none⟩), .pointer (some ⟨bx, 0, none⟩), .pointer (some ⟨br, 0, none⟩), .pointer (some ⟨bn, 0, none⟩)] w fun e w' => e = .returned (.int .i64 0) ∧ w = w' := by
  cases av
  · clear hc
    go_enter Try.func19, Try.ntmps19
    go_wp2
    go_ret
    exact ⟨rfl, rfl⟩
  · have hc' : va ≤ su := by simpa using hc
    clear hc
    go_enter Try.func19, Try.ntmps19
    go_wp2
    go_ret
    exact ⟨rfl, rfl⟩

set_option maxHeartbeats 1000000 in
theorem take2_yes (r va su n : Int) (bd bx br bn bf : Nat) (w : World) (h1 : w.cell? ⟨br, 0, none⟩ = some (.int .i64 r)) (h2 : w.cell? ⟨bd, 5, none⟩ = some (.bool true))
    (h3 : w.cell? ⟨bx, 1, none⟩ = some (.int .i64 va)) (h4 : w.cell? ⟨bx, 2, none⟩ = some (.int .i64 su)) (h5 : w.cell? ⟨bn, 0, none⟩ = some (noteV bf)) (hc : su < va)
    (hmd : Hid (Am.md r su va 4 = (r - n, 0))) (r0 : 0 ≤ r) (r1 : r ≤ 1073741824) (n0 : 0 ≤ n) (n1 : n ≤ r) :
    Calls Try.prog 19 #[.pointer (some ⟨bd, 0, none⟩), .pointer (some ⟨bx, 0, none⟩), .pointer (some ⟨br, 0, none⟩), .pointer (some ⟨bn, 0, none⟩)] w fun e w' => e = .returned (.int .i64 n) ∧ ∃ m, w' = w.drewN m := by
  obtain ⟨k, hk⟩ : ∃ k, r - n = k := ⟨_, rfl⟩
  rw [hk] at hmd
  have cs : ∀ W, Calls Try.prog 20 #[.int .i64 r, .int .i64 su, .int .i64 va, .int .i64 4] W fun e w' => e = .returned (.tuple #[.int .i64 k, .int .i64 0]) ∧ ∃ n, w' = W.drewN n := fun W => by
    have := muldiv_any r su va 4 W
    rw [hmd.out] at this
    exact this
  have CS := Lib.hid cs
  have hw : IntKind.i64.wrap (r - k) = n := by rw [IntKind.wrap_i64]; omega
  clear cs hk hmd
  unfold noteV at h5
  go_enter Try.func19, Try.ntmps19
  go_wp2
  go_quiet (first | (go_at_call 20; exact Calls.quiet_of (CS.out _)) | (go_at_call 18; exact quiet_left (note_ok _ _ _)))
  go_wp2
  go_ret
  exact ⟨rfl, _, rfl⟩
end Go.Proofs.Ytageedgbkaknnaa
