/- The contracts of the reference's package for layer 1: Valid, Clamp, Divide, up, MulDiv, Share. -/
import Derived.Test.YtlmgfcgakdanaaaProg
import Derived.Test.YtlmgfcgakdanaaaAmMath
import Derived.Test.YtlmgfcgakdanaaaRefMath
import Derived.WalkKit
import Derived.Outline
import Derived.Deep.QuietTactic
import Derived.BigQuiet
import Derived.LoopTactic
import Derived.Lib.Hide
import Derived.Laws.Bits128
namespace Go.Proofs.Ytlmgfcgakdanaaa
open Go.RowKit

set_option maxHeartbeats 400000 in
theorem rvalid_any (a : Int) (w : World) : Calls Try.prog 59 #[.int .i64 a] w fun e w' => e = .returned (.bool (Am.validB a)) ∧ w = w' := by
  go_enter Try.func59, Try.ntmps59
  go_wp2
  · go_ret
    refine ⟨?_, rfl⟩
    have h : -17592186044416 ≤ a := by assumption
    simp [Am.validB, h]
  · go_ret
    refine ⟨?_, rfl⟩
    have h : a < -17592186044416 := by assumption
    have h' : Am.validB a = false := (Am.validB_false a).2 (.inl h)
    rw [h']
    rfl

/-- what the division answers: the quotient and the remainder, or nothing above twice the greatest amount -/
def Ref.Div (Q R o1 o2 : Int) (b : Bool) : Prop := (Q ≤ 35184372088832 ∧ o1 = Q ∧ o2 = R ∧ b = true) ∨ (35184372088832 < Q ∧ o1 = 0 ∧ o2 = 0 ∧ b = false)

set_option maxHeartbeats 1000000 in
set_option maxRecDepth 100000 in
theorem divide_any (a num den Q R o1 o2 : Int) (b : Bool) (w : World) (a0 : 0 ≤ a) (a1 : a ≤ 17592186044416) (n0 : 0 ≤ num) (n1 : num ≤ 17592186044416) (d0 : 1 ≤ den) (d1 : den ≤ 4503599627370496)
    (hQ : Hid (a * num / den = Q)) (hR : Hid (a * num % den = R)) (ho : Hid (Ref.Div Q R o1 o2 b)) :
    Calls Try.prog 60 #[.int .i64 a, .int .i64 num, .int .i64 den] w fun e w' => e = .returned (.tuple #[.int .i64 o1, .int .i64 o2, .bool b]) ∧ ∃ n, w' = w.drewN n := by
  have hd0 : ¬ den = 0 := by omega
  have hd1 : (den == 0) = false := by rw [beq_eq_false_iff_ne]; omega
  go_enter Try.func60, Try.ntmps60
  go_wp2
  go_loopw [9, 10, 11] (fun s9 s10 s11 wr => ∃ i q r : Int, -1 ≤ i ∧ i ≤ 45 ∧ 0 ≤ q ∧ q ≤ 35184372088832 ∧ 0 ≤ r ∧ r < den ∧ Hid (q = Ref.dq a num den (i + 1).toNat) ∧ Hid (r = Ref.dr a num den (i + 1).toNat) ∧ s9 = .int .i64 q ∧ s10 = .int .i64 r ∧ s11 = .int .i64 i ∧ ∃ n, wr = w.drewN n) (fun _ _ s11 _ => (intOf s11 + 1).toNat)
  case atStart => exact ⟨45, 0, 0, by omega, by omega, by omega, by omega, by omega, by omega, Lib.hid (Ref.dq_top a num den a0 a1).1.symm, Lib.hid (Ref.dq_top a num den a0 a1).2.symm, rfl, rfl, rfl, 0, rfl⟩
  case round =>
    obtain ⟨i, q, r, hi1, hi2, hq1, hq2, hr1, hr2, EQ, ER, rfl, rfl, rfl, nq, rfl⟩ := hrel
    by_cases h0 : 0 ≤ i
    · obtain ⟨bt, hbt⟩ : ∃ bt, a / 2 ^ i.toNat % 2 = bt := ⟨_, rfl⟩
      have st := Ref.step a num den bt i.toNat (by omega) hbt
      have e1 : i.toNat + 1 = (i + 1).toNat := by omega
      rw [e1, ← EQ.out, ← ER.out] at st
      have hb2 : bits BinOp.and IntKind.i64 (a / 2 ^ i.toNat) 1 = bt := by rw [Ref.i64_and1, hbt]
      obtain ⟨hs1, hs2⟩ := Ref.dr_bound a num den i.toNat (by omega)
      have hs3 := Ref.dq_nonneg a num den i.toNat a0 n0 (by omega)
      have hs4 := Ref.dq_mono a num den i.toNat a0 n0 (by omega)
      obtain ⟨st1, st2⟩ := st
      obtain ⟨x, hx⟩ : ∃ x, 2 * r + bt * num = x := ⟨_, rfl⟩
      have hbb : bt = 0 ∨ bt = 1 := by omega
      have hx0 : 0 ≤ x ∧ x ≤ 9024791440785408 := by rcases hbb with rfl | rfl <;> omega
      rw [hx] at st1 st2
      have hxb := Ref.add_bound x den hx0.1 hx0.2 (by omega)
      obtain ⟨q2, hq⟩ : ∃ q2, 2 * q + x / den = q2 := ⟨_, rfl⟩
      obtain ⟨r2, hr⟩ : ∃ r2, x % den = r2 := ⟨_, rfl⟩
      rw [hq] at st1
      rw [hr] at st2
      rw [st1, hQ.out] at hs4
      rw [st1] at hs3
      rw [st2] at hs1 hs2
      have ew : IntKind.i64.wrap (2 * q + x / den) = q2 := by rw [IntKind.wrap_i64]; omega
      have ST1 : Hid (q2 = Ref.dq a num den (i - 1 + 1).toNat) := Lib.hid (by rw [Int.sub_add_cancel]; exact st1.symm)
      have ST2 : Hid (r2 = Ref.dr a num den (i - 1 + 1).toNat) := Lib.hid (by rw [Int.sub_add_cancel]; exact st2.symm)
      have HS4 := Lib.hid hs4
      obtain ⟨hx1, hx2⟩ := hx0
      obtain ⟨hx3, hx4⟩ := hxb
      have HBT := Lib.hid hbt
      have HB2 := Lib.hid hb2
      clear st1 st2 hs4 e1 EQ ER hq hbt hb2
      by_cases hover : 35184372088832 < q2
      · have hout := ho.out
        rcases hout with ⟨h1, _, _, _⟩ | ⟨_, rfl, rfl, rfl⟩
        · have := HS4.out; omega
        rcases hbb with rfl | rfl
        · rw [Int.zero_mul, Int.add_zero] at hx
          have hbf : (bits BinOp.and IntKind.i64 (a / 2 ^ i.toNat) 1 == 1) = false := by rw [HB2.out]; rfl
          clear HBT HB2
          go_wp2
          go_quiet (fail)
          go_wp2
          go_ret3
          exact ⟨rfl, _, rfl⟩
        · rw [Int.one_mul] at hx
          have hbf : (bits BinOp.and IntKind.i64 (a / 2 ^ i.toNat) 1 == 1) = true := by rw [HB2.out]; rfl
          clear HBT HB2
          go_wp2
          go_quiet (fail)
          go_wp2
          go_ret3
          exact ⟨rfl, _, rfl⟩
      · rcases hbb with rfl | rfl
        · rw [Int.zero_mul, Int.add_zero] at hx
          have hbf : (bits BinOp.and IntKind.i64 (a / 2 ^ i.toNat) 1 == 1) = false := by rw [HB2.out]; rfl
          clear HBT HB2
          go_wp2
          go_quiet (fail)
          go_wp2
          go_roundw
          case rel => exact ⟨i - 1, q2, r2, by omega, by omega, hs3, by omega, hs1, hs2, ST1, ST2, rfl, by rw [hr], rfl, _, rfl⟩
          case measure => simp [intOf]; omega
        · rw [Int.one_mul] at hx
          have hbf : (bits BinOp.and IntKind.i64 (a / 2 ^ i.toNat) 1 == 1) = true := by rw [HB2.out]; rfl
          clear HBT HB2
          go_wp2
          go_quiet (fail)
          go_wp2
          go_roundw
          case rel => exact ⟨i - 1, q2, r2, by omega, by omega, hs3, by omega, hs1, hs2, ST1, ST2, rfl, by rw [hr], rfl, _, rfl⟩
          case measure => simp [intOf]; omega
    · have hout := ho.out
      have hz := Ref.dq_zero a num den
      have e0 : (i + 1).toNat = 0 := by omega
      have hq3 := EQ.out
      have hr3 := ER.out
      rw [e0, hz.1, hQ.out] at hq3
      rw [e0, hz.2, hR.out] at hr3
      clear EQ ER hz e0
      rcases hout with ⟨_, rfl, rfl, rfl⟩ | ⟨h1, _, _, _⟩
      · subst hq3 hr3
        go_wp2
        go_ret3
        exact ⟨rfl, _, rfl⟩
      · omega

set_option maxHeartbeats 400000 in
theorem up_any (q r d : Int) (neg : Bool) (m : Int) (w : World) (hq : 0 ≤ q) (h0 : 0 ≤ r) (h1 : r ≤ 4503599627370496) (hd : 1 ≤ d) :
    Calls Try.prog 61 #[.int .i64 q, .int .i64 r, .int .i64 d, .int .i64 m, .bool neg] w fun e w' => e = .returned (.bool (Am.awayB q r d neg m)) ∧ w = w' := by
  rw [Ref.up_eq q r d m neg h0 hd]
  go_enter Try.func61, Try.ntmps61
  go_wp2
  all_goals (go_ret; refine ⟨?_, rfl⟩; simp_all)
end Go.Proofs.Ytlmgfcgakdanaaa
