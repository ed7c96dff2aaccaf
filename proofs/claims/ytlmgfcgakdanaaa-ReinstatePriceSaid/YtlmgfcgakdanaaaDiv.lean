/- math/bits.Div64 returns the quotient and the remainder of (hi * 2^64 + lo) / y, for hi < y. -/
import Derived.Test.YtlmgfcgakdanaaaProg
import Derived.Test.YtlmgfcgakdanaaaShelf
import Derived.Test.YtlmgfcgakdanaaaKnuth
import Derived.WalkKit
import Derived.Outline
import Derived.RegionTactic
import Derived.Deep.QuietTactic
import Derived.BigQuiet
import Derived.LoopTactic
import Derived.Lib.Hide
import Derived.Laws.Bits64b
namespace Go.Proofs.Ytlmgfcgakdanaaa
open Go.RowKit

namespace Div
theorem wrapN (a : Nat) (ha : a < 18446744073709551616) : IntKind.u64.wrap (a : Int) = (a : Int) := by rw [IntKind.wrap_u64]; omega
theorem mulN (a b : Nat) : (a : Int) * (b : Int) = ((a * b : Nat) : Int) := (Int.natCast_mul a b).symm

theorem tdivN (a b : Nat) : (a : Int).tdiv (b : Int) = ((a / b : Nat) : Int) := by
  rw [Int.tdiv_eq_ediv_of_nonneg (by omega), ← Int.natCast_ediv]

theorem subN (a b : Nat) (h : b ≤ a) (ha : a < 18446744073709551616) : IntKind.u64.wrap ((a : Int) - (b : Int)) = ((a - b : Nat) : Int) := by
  rw [IntKind.wrap_u64]; omega

theorem wrapM (a : Nat) : IntKind.u64.wrap (a : Int) = ((a % 18446744073709551616 : Nat) : Int) := by rw [IntKind.wrap_u64]; omega

/-- u * 2^32 + v - q * z, each step wrapped -/
theorem rem_wrap (a b c : Nat) (h : c ≤ a + b) (hlt : a + b - c < 18446744073709551616) :
    IntKind.u64.wrap (IntKind.u64.wrap (IntKind.u64.wrap (a : Int) + (b : Int)) - IntKind.u64.wrap (c : Int)) = ((a + b - c : Nat) : Int) := by
  simp only [IntKind.wrap_u64]; omega

theorem key {u z u1 yn1 yn0 : Nat} {qa : Int} (a b : Int) (a0 : 0 ≤ a) (b0 : 0 ≤ b) (hsplit : z = yn1 * 4294967296 + yn0) (hu : u < z) (h1 : u1 < 4294967296) (h0 : yn0 < 4294967296)
    (inv : Knuth.Inv u z u1 yn1 a.toNat b.toNat) (hqa : (((u * 4294967296 + u1) / z : Nat) : Int) = qa) :
    (a ≤ 4294967297 ∧ b < 4294967296) ∧ (
    (4294967296 ≤ a ∧ b + yn1 < 4294967296 ∧ 1 ≤ a ∧ Hid (Knuth.Inv u z u1 yn1 (a - 1).toNat (b + yn1).toNat)) ∨
    (a < 4294967296 ∧ IntKind.u64.wrap (a * ↑yn0) = a * ↑yn0 ∧ b + yn1 < 4294967296 ∧ 1 ≤ a ∧ Hid (Knuth.Inv u z u1 yn1 (a - 1).toNat (b + yn1).toNat) ∧ 4294967296 * b + ↑u1 < a * ↑yn0) ∨
    (4294967296 ≤ a ∧ 4294967296 ≤ b + yn1 ∧ 1 ≤ a ∧ a - 1 = qa) ∨
    (a < 4294967296 ∧ IntKind.u64.wrap (a * ↑yn0) = a * ↑yn0 ∧ 4294967296 ≤ b + yn1 ∧ 1 ≤ a ∧ a - 1 = qa ∧ 4294967296 * b + ↑u1 < a * ↑yn0) ∨
    (a < 4294967296 ∧ IntKind.u64.wrap (a * ↑yn0) = a * ↑yn0 ∧ a * ↑yn0 ≤ 4294967296 * b + ↑u1 ∧ a = qa)) := by
  obtain ⟨A, rfl⟩ := Int.eq_ofNat_of_zero_le a0
  obtain ⟨B, rfl⟩ := Int.eq_ofNat_of_zero_le b0
  simp only [Int.toNat_natCast] at inv
  have ha := inv.2.2.1
  have hb := inv.2.2.2
  refine ⟨⟨by omega, by omega⟩, ?_⟩
  have MW : A < 4294967296 → IntKind.u64.wrap ((A : Int) * ↑yn0) = ↑A * ↑yn0 := fun hg => by
    rw [Div.mulN]; exact Div.wrapN _ (Nat.lt_of_le_of_lt (Nat.mul_le_mul (show A ≤ 4294967295 by omega) (show yn0 ≤ 4294967295 by omega)) (by omega))
  by_cases ht : 4294967296 ≤ A ∨ 4294967296 * B + u1 < A * yn0
  · have hlt := Knuth.test_yes hsplit hu h1 inv ht
    have ha1 : 1 ≤ A := Nat.lt_of_le_of_lt (Nat.zero_le _) hlt
    by_cases hr : 4294967296 ≤ B + yn1
    · have hbr := Knuth.broke hsplit h0 hu inv hlt hr
      rw [hbr] at hqa
      by_cases hg : 4294967296 ≤ A
      · exact .inr (.inr (.inl ⟨by omega, by omega, by omega, by omega⟩))
      · exact .inr (.inr (.inr (.inl ⟨by omega, MW (by omega), by omega, by omega, by omega, by rw [Div.mulN]; omega⟩)))
    · have e1 : ((A : Int) - 1).toNat = A - 1 := by omega
      have e2 : ((B : Int) + yn1).toNat = B + yn1 := by omega
      rw [e1, e2]
      have hnx := Knuth.inv_next inv hlt (by omega)
      by_cases hg : 4294967296 ≤ A
      · exact .inl ⟨by omega, by omega, by omega, Lib.hid hnx⟩
      · exact .inr (.inl ⟨by omega, MW (by omega), by omega, by omega, Lib.hid hnx, by rw [Div.mulN]; omega⟩)
  · have hno := Knuth.test_no hsplit hu inv (by omega)
    rw [hno] at hqa
    exact .inr (.inr (.inr (.inr ⟨by omega, MW (by omega), by rw [Div.mulN]; omega, by omega⟩)))
end Div

set_option maxHeartbeats 400000 in
theorem div64_zero (lo y : Nat) (hy : 0 < y) (hl : lo < 18446744073709551616) (w : World) : Calls Try.prog 51 #[.int .u64 0, .int .u64 lo, .int .u64 y] w fun e w' => e = .returned (.tuple #[.int .u64 ((lo / y : Nat) : Int), .int .u64 ((lo % y : Nat) : Int)]) ∧ ∃ n, w' = w.drewN n := by
  have hy' : 0 < (y : Int) := by omega
  have hy2 : ((y : Int) == 0) = false := by rw [beq_eq_false_iff_ne]; omega
  have hy3 : ¬ y = 0 := by omega
  go_enter Try.func51, Try.ntmps51
  go_wp2
  go_quiet (fail)
  go_wp2
  go_ret2
  refine ⟨?_, _, rfl⟩
  have e : IntKind.u64.wrap ((lo : Int) / (y : Int)) = (lo : Int) / (y : Int) := by
    rw [← Int.natCast_ediv]; exact Div.wrapN _ (Nat.lt_of_le_of_lt (Nat.div_le_self _ _) hl)
  simp [e]

set_option maxHeartbeats 1000000 in
set_option maxRecDepth 100000 in
theorem div64_core (hi lo y s z yn1 yn0 hz lz un32 un10 un1 un0 q1 r1 un21 q2 r2 rr : Nat) (qa qb : Int) (hy : 0 < hi) (h : hi < y) (hb : y < 18446744073709551616)
    (es : IntKind.u64.wrap (64 - ↑(Lib.bitLen y)) = (s : Int))
    (ez : IntKind.u64.wrap (↑y * 2 ^ min s 64) = (z : Int))
    (e1 : (z : Int) / 4294967296 = ↑yn1) (e0 : bits BinOp.and IntKind.u64 ↑z 4294967295 = ↑yn0)
    (ehz : IntKind.u64.wrap (↑hi * 2 ^ min s 64) = (hz : Int)) (elz : (lo : Int) / 2 ^ min (IntKind.u64.wrap (64 - ↑s)).toNat 64 = ↑lz)
    (eu : bits BinOp.or IntKind.u64 ↑hz ↑lz = ↑un32) (eu10 : IntKind.u64.wrap (↑lo * 2 ^ min s 64) = (un10 : Int))
    (eu1 : (un10 : Int) / 4294967296 = ↑un1) (eu0 : bits BinOp.and IntKind.u64 ↑un10 4294967295 = ↑un0)
    (hn : ¬ yn1 = 0) (eq1 : IntKind.u64.wrap ((un32 : Int) / ↑yn1) = (q1 : Int)) (er1 : IntKind.u64.wrap (↑un32 - IntKind.u64.wrap (↑q1 * ↑yn1)) = (r1 : Int))
    (hsplit : Hid (z = yn1 * 4294967296 + yn0)) (hz1 : 2147483648 ≤ yn1) (hz2 : yn1 < 4294967296) (hz3 : yn0 < 4294967296) (hun1 : un1 < 4294967296) (hun0 : un0 < 4294967296)
    (hu : Hid (un32 < z)) (hqa : Hid ((((un32 * 4294967296 + un1) / z : Nat) : Int) = qa)) (inv1 : Knuth.Inv un32 z un1 yn1 q1 r1)
    (eun21 : IntKind.u64.wrap (IntKind.u64.wrap (IntKind.u64.wrap (↑un32 * 4294967296) + ↑un1) - IntKind.u64.wrap (qa * ↑z)) = (un21 : Int))
    (hu2 : Hid (un21 < z)) (eq2 : IntKind.u64.wrap ((un21 : Int) / ↑yn1) = (q2 : Int)) (er2 : IntKind.u64.wrap (↑un21 - IntKind.u64.wrap (↑q2 * ↑yn1)) = (r2 : Int))
    (hqb : Hid ((((un21 * 4294967296 + un0) / z : Nat) : Int) = qb)) (inv2 : Knuth.Inv un21 z un0 yn1 q2 r2)
    (hqa1 : 0 ≤ qa) (hqb1 : 0 ≤ qb) (hqa2 : qa < 4294967296) (hqb2 : qb < 4294967296)
    (err : IntKind.u64.wrap (IntKind.u64.wrap (IntKind.u64.wrap (↑un21 * 4294967296) + ↑un0) - IntKind.u64.wrap (qb * ↑z)) / 2 ^ min s 64 = (rr : Int))
    (w : World) : Calls Try.prog 51 #[.int .u64 hi, .int .u64 lo, .int .u64 y] w fun e w' => e = .returned (.tuple #[.int .u64 (qa * 4294967296 + qb), .int .u64 rr]) ∧ w = w' := by
  have h0 : ((hi : Int) == 0) = false := by rw [beq_eq_false_iff_ne]; omega
  have h2 : ((y : Int) == 0) = false := by rw [beq_eq_false_iff_ne]; omega
  have INV1 := Lib.hid inv1
  have INV2 := Lib.hid inv2
  clear inv1 inv2
  go_enter Try.func51, Try.ntmps51
  go_wp2_with (go_at_call 77; refine (Try.bits_LeadingZeros64 _ _ (by omega) (by omega)).mono ?_; rintro e w' ⟨rfl, rfl⟩)
  go_loop [15, 16] (fun q r => ∃ a b : Int, 0 ≤ a ∧ 0 ≤ b ∧ Hid (Knuth.Inv un32 z un1 yn1 a.toNat b.toNat) ∧ q = .int .u64 a ∧ r = .int .u64 b) (fun q _ => (intOf q).toNat)
  case atStart => exact ⟨q1, r1, by omega, by omega, INV1, rfl, rfl⟩
  clear hb h0 h2 es ez e1 e0 ehz elz eu eu10 eu1 eu0 eq1 er1 INV1
  case round =>
    obtain ⟨a, b, a0, b0, INV, rfl, rfl⟩ := hrel
    obtain ⟨⟨ha, hbb⟩, key⟩ := Div.key a b a0 b0 hsplit.out hu.out hun1 hz3 INV.out hqa.out
    clear INV hu
    rcases key with ⟨hg, hr, ha1, hinv⟩ | ⟨hg, mw, hr, ha1, hinv, ht⟩ | ⟨hg, hr, ha1, hqq⟩ | ⟨hg, mw, hr, ha1, hqq, ht⟩ | ⟨hg, mw, ht, rfl⟩
    · clear INV2 hu2 hqb err eun21 eq2 er2
      go_wp2
      go_round
      case rel => exact ⟨a - 1, b + yn1, by omega, by omega, hinv, rfl, rfl⟩
      case measure => simp [intOf]; omega
    · clear INV2 hu2 hqb err eun21 eq2 er2
      go_wp2
      go_round
      case rel => exact ⟨a - 1, b + yn1, by omega, by omega, hinv, rfl, rfl⟩
      case measure => simp [intOf]; omega
    all_goals
      go_wp2
      go_loop [18, 16] (fun q r => ∃ a b : Int, 0 ≤ a ∧ 0 ≤ b ∧ Hid (Knuth.Inv un21 z un0 yn1 a.toNat b.toNat) ∧ q = .int .u64 a ∧ r = .int .u64 b) (fun q _ => (intOf q).toNat)
      case atStart => exact ⟨q2, r2, by omega, by omega, INV2, rfl, rfl⟩
      case round =>
        clear INV2 eun21 eq2 er2
        obtain ⟨a, b, a0, b0, INV, rfl, rfl⟩ := hrel
        obtain ⟨⟨ha, hbb⟩, key⟩ := Div.key a b a0 b0 hsplit.out hu2.out hun0 hz3 INV.out hqb.out
        clear INV hu2
        rcases key with ⟨hg, hr, ha1, hinv⟩ | ⟨hg, mw, hr, ha1, hinv, ht⟩ | ⟨hg, hr, ha1, hqq⟩ | ⟨hg, mw, hr, ha1, hqq, ht⟩ | ⟨hg, mw, ht, rfl⟩
        · go_wp2
          go_round
          case rel => exact ⟨a - 1, b + yn1, by omega, by omega, hinv, rfl, rfl⟩
          case measure => simp [intOf]; omega
        · go_wp2
          go_round
          case rel => exact ⟨a - 1, b + yn1, by omega, by omega, hinv, rfl, rfl⟩
          case measure => simp [intOf]; omega
        all_goals
          go_wp2
          go_ret2
          exact ⟨rfl, rfl⟩
end Go.Proofs.Ytlmgfcgakdanaaa
