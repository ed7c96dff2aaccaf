/- The plain arithmetic behind math/bits.Div64 (long division by two digits of 32 bits), on natural numbers; no program in sight. math/bits.Div64 returns the quotient and the remainder of (hi * 2^64 + lo) / y, for hi < y. math/bits.Div64 returns the quotient and the remainder of (hi * 2^64 + lo) / y, for hi < y: the normalised numbers handed to the walk. -/
import Derived.WalkKit
import Derived.Test.YtbeikfopneeodaaGreatProg
import Derived.Test.YtbeikfopneeodaaGreatShelf
import Derived.Outline
import Derived.RegionTactic
import Derived.Deep.QuietTactic
import Derived.BigQuiet
import Derived.LoopTactic
import Derived.Lib.Hide
import Derived.Laws.Bits64b
import Derived.Lib.ItoaNum
namespace Go.Proofs.YtbeikfopneeodaaGreat.Knuth

theorem qt_lt {u z u1 : Nat} (hu : u < z) (h1 : u1 < 4294967296) : (u * 4294967296 + u1) / z < 4294967296 := by
  rw [Nat.div_lt_iff_lt_mul (by omega)]
  have : (u + 1) * 4294967296 ≤ z * 4294967296 := Nat.mul_le_mul_right _ hu
  rw [Nat.mul_comm 4294967296 z]; omega

theorem mul_split (q yn1 yn0 z : Nat) (hz : z = yn1 * 4294967296 + yn0) : q * z = q * yn1 * 4294967296 + q * yn0 := by
  rw [hz, Nat.mul_add, Nat.mul_assoc]

theorem start_le {u z u1 yn1 yn0 : Nat} (hz : z = yn1 * 4294967296 + yn0) (hp : 0 < yn1) (h1 : u1 < 4294967296) :
    (u * 4294967296 + u1) / z ≤ u / yn1 := by
  generalize hq : (u * 4294967296 + u1) / z = q
  have h := Nat.div_mul_le_self (u * 4294967296 + u1) z
  rw [hq, mul_split q yn1 yn0 z hz] at h
  rw [Nat.le_div_iff_mul_le hp]
  generalize q * yn1 = a at *
  generalize q * yn0 = b at *
  omega

theorem start_hi {u z yn1 yn0 : Nat} (hz : z = yn1 * 4294967296 + yn0) (hp : 2147483648 ≤ yn1) (h0 : yn0 < 4294967296) (hu : u < z) :
    u / yn1 ≤ 4294967297 := by
  have : u / yn1 < 4294967298 := by
    rw [Nat.div_lt_iff_lt_mul (by omega)]; omega
  omega

/-- the relation of the loop -/
def Inv (u z u1 yn1 q r : Nat) : Prop := q * yn1 + r = u ∧ (u * 4294967296 + u1) / z ≤ q ∧ q ≤ 4294967297 ∧ r < 4294967296

theorem inv_start {u z u1 yn1 yn0 : Nat} (hz : z = yn1 * 4294967296 + yn0) (hp : 2147483648 ≤ yn1) (hq : yn1 < 4294967296) (h0 : yn0 < 4294967296) (hu : u < z) (h1 : u1 < 4294967296) :
    Inv u z u1 yn1 (u / yn1) (u - u / yn1 * yn1) := by
  have hm := Nat.div_add_mod u yn1
  have hl := Nat.mod_lt u (show yn1 > 0 by omega)
  rw [Nat.mul_comm] at hm
  refine ⟨?_, start_le hz (by omega) h1, start_hi hz hp h0 hu, ?_⟩
  · generalize u / yn1 * yn1 = t at *; omega
  · generalize u / yn1 * yn1 = t at *; omega

theorem test_yes {u z u1 yn1 yn0 q r : Nat} (hz : z = yn1 * 4294967296 + yn0) (hu : u < z) (h1 : u1 < 4294967296) (hi : Inv u z u1 yn1 q r)
    (ht : 4294967296 ≤ q ∨ 4294967296 * r + u1 < q * yn0) : (u * 4294967296 + u1) / z < q := by
  rcases ht with ht | ht
  · exact Nat.lt_of_lt_of_le (qt_lt hu h1) ht
  · rw [Nat.div_lt_iff_lt_mul (by omega), mul_split q yn1 yn0 z hz]
    have := hi.1
    generalize q * yn1 = a at *
    generalize q * yn0 = b at *
    omega

theorem test_no {u z u1 yn1 yn0 q r : Nat} (hz : z = yn1 * 4294967296 + yn0) (hu : u < z) (hi : Inv u z u1 yn1 q r)
    (h3 : q * yn0 ≤ 4294967296 * r + u1) : (u * 4294967296 + u1) / z = q := by
  apply Nat.le_antisymm hi.2.1
  rw [Nat.le_div_iff_mul_le (by omega), mul_split q yn1 yn0 z hz]
  have := hi.1
  generalize q * yn1 = a at *
  generalize q * yn0 = b at *
  omega

theorem inv_next {u z u1 yn1 q r : Nat} (hi : Inv u z u1 yn1 q r) (ht : (u * 4294967296 + u1) / z < q) (hr : r + yn1 < 4294967296) :
    Inv u z u1 yn1 (q - 1) (r + yn1) := by
  obtain ⟨q, rfl⟩ : ∃ k, q = k + 1 := ⟨q - 1, by have := Nat.lt_of_le_of_lt (Nat.zero_le _) ht; omega⟩
  have h := hi.1
  rw [Nat.add_mul, Nat.one_mul] at h
  have := hi.2.2.1
  exact ⟨by rw [Nat.add_sub_cancel]; omega, by omega, by omega, hr⟩

theorem broke {u z u1 yn1 yn0 q r : Nat} (hz : z = yn1 * 4294967296 + yn0) (h0 : yn0 < 4294967296) (hu : u < z) (hi : Inv u z u1 yn1 q r)
    (ht : (u * 4294967296 + u1) / z < q) (hr : 4294967296 ≤ r + yn1) : (u * 4294967296 + u1) / z = q - 1 := by
  obtain ⟨q, rfl⟩ : ∃ k, q = k + 1 := ⟨q - 1, by have := Nat.lt_of_le_of_lt (Nat.zero_le _) ht; omega⟩
  rw [Nat.add_sub_cancel]
  apply Nat.le_antisymm (by omega)
  rw [Nat.le_div_iff_mul_le (by omega), mul_split q yn1 yn0 z hz]
  have h := hi.1
  have h5 := hi.2.2.1
  rw [Nat.add_mul, Nat.one_mul] at h
  have : q * yn0 ≤ 4294967296 * 4294967295 := Nat.mul_le_mul (by omega) (by omega)
  generalize q * yn1 = a at *
  generalize q * yn0 = b at *
  omega

theorem two_aux (m t x u : Nat) (h : t + x = m) : m * 4294967296 + u = (x * 4294967296 + u) + t * 4294967296 := by omega

theorem two' (n u10 z m : Nat) (hz : 0 < z) (hm : m = n * 4294967296 + u10 / 4294967296) :
    (n * 4294967296 * 4294967296 + u10) / z = m / z * 4294967296 + (m % z * 4294967296 + u10 % 4294967296) / z ∧
    (n * 4294967296 * 4294967296 + u10) % z = (m % z * 4294967296 + u10 % 4294967296) % z := by
  have e : n * 4294967296 * 4294967296 + u10 = m * 4294967296 + u10 % 4294967296 := by omega
  rw [e]
  have hd := Nat.div_add_mod m z
  have e2 : m * 4294967296 + u10 % 4294967296 = (m % z * 4294967296 + u10 % 4294967296) + z * (m / z * 4294967296) := by
    rw [← Nat.mul_assoc]
    exact two_aux m _ _ _ hd
  rw [e2, Nat.add_mul_div_left _ _ hz, Nat.add_mul_mod_self_left]
  exact ⟨by omega, rfl⟩

/-- the two digits together -/
theorem two (n u10 z : Nat) (hz : 0 < z) :
    (n * 4294967296 * 4294967296 + u10) / z = (n * 4294967296 + u10 / 4294967296) / z * 4294967296 + ((n * 4294967296 + u10 / 4294967296) % z * 4294967296 + u10 % 4294967296) / z ∧
    (n * 4294967296 * 4294967296 + u10) % z = ((n * 4294967296 + u10 / 4294967296) % z * 4294967296 + u10 % 4294967296) % z :=
  two' n u10 z _ hz rfl

/-- scaling by a power of two -/
theorem scale (n y k : Nat) (hk : 0 < k) : n * k / (y * k) = n / y ∧ n * k % (y * k) / k = n % y := by
  constructor
  · exact Nat.mul_div_mul_right _ _ hk
  · rw [Nat.mul_mod_mul_right, Nat.mul_div_cancel _ hk]

end Go.Proofs.YtbeikfopneeodaaGreat.Knuth
namespace Go.Proofs.YtbeikfopneeodaaGreat
open Go.RowKit

namespace Div
theorem wrapN (a : Nat) (ha : a < 18446744073709551616) : IntKind.u64.wrap (a : Int) = (a : Int) := by rw [IntKind.wrap_u64]; omega
theorem mulN (a b : Nat) : (a : Int) * (b : Int) = ((a * b : Nat) : Int) := (Int.natCast_mul a b).symm

theorem tdivN (a b : Nat) : (a : Int).tdiv (b : Int) = ((a / b : Nat) : Int) := by
  rw [Int.tdiv_eq_ediv_of_nonneg (by omega), ← Int.natCast_ediv]

theorem subN (a b : Nat) (h : b ≤ a) (ha : a < 18446744073709551616) : IntKind.u64.wrap ((a : Int) - (b : Int)) = ((a - b : Nat) : Int) := by
  rw [IntKind.wrap_u64]; omega

theorem wrapM (a : Nat) : IntKind.u64.wrap (a : Int) = ((a % 18446744073709551616 : Nat) : Int) := by rw [IntKind.wrap_u64]; omega

/-- u * 2^32 + v - q * z, each step wrapped -/
theorem rem_wrap (a b c : Nat) (h : c ≤ a + b) (hlt : a + b - c < 18446744073709551616) :
    IntKind.u64.wrap (IntKind.u64.wrap (IntKind.u64.wrap (a : Int) + (b : Int)) - IntKind.u64.wrap (c : Int)) = ((a + b - c : Nat) : Int) := by
  simp only [IntKind.wrap_u64]; omega

theorem key {u z u1 yn1 yn0 : Nat} {qa : Int} (a b : Int) (a0 : 0 ≤ a) (b0 : 0 ≤ b) (hsplit : z = yn1 * 4294967296 + yn0) (hu : u < z) (h1 : u1 < 4294967296) (h0 : yn0 < 4294967296)
    (inv : Knuth.Inv u z u1 yn1 a.toNat b.toNat) (hqa : (((u * 4294967296 + u1) / z : Nat) : Int) = qa) :
    (a ≤ 4294967297 ∧ b < 4294967296) ∧ (
    (4294967296 ≤ a ∧ b + yn1 < 4294967296 ∧ 1 ≤ a ∧ Hid (Knuth.Inv u z u1 yn1 (a - 1).toNat (b + yn1).toNat)) ∨
    (a < 4294967296 ∧ IntKind.u64.wrap (a * ↑yn0) = a * ↑yn0 ∧ b + yn1 < 4294967296 ∧ 1 ≤ a ∧ Hid (Knuth.Inv u z u1 yn1 (a - 1).toNat (b + yn1).toNat) ∧ 4294967296 * b + ↑u1 < a * ↑yn0) ∨
    (4294967296 ≤ a ∧ 4294967296 ≤ b + yn1 ∧ 1 ≤ a ∧ a - 1 = qa) ∨
    (a < 4294967296 ∧ IntKind.u64.wrap (a * ↑yn0) = a * ↑yn0 ∧ 4294967296 ≤ b + yn1 ∧ 1 ≤ a ∧ a - 1 = qa ∧ 4294967296 * b + ↑u1 < a * ↑yn0) ∨
    (a < 4294967296 ∧ IntKind.u64.wrap (a * ↑yn0) = a * ↑yn0 ∧ a * ↑yn0 ≤ 4294967296 * b + ↑u1 ∧ a = qa)) := by
  obtain ⟨A, rfl⟩ := Int.eq_ofNat_of_zero_le a0
  obtain ⟨B, rfl⟩ := Int.eq_ofNat_of_zero_le b0
  simp only [Int.toNat_natCast] at inv
  have ha := inv.2.2.1
  have hb := inv.2.2.2
  refine ⟨⟨by omega, by omega⟩, ?_⟩
  have MW : A < 4294967296 → IntKind.u64.wrap ((A : Int) * ↑yn0) = ↑A * ↑yn0 := fun hg => by
    rw [Div.mulN]; exact Div.wrapN _ (Nat.lt_of_le_of_lt (Nat.mul_le_mul (show A ≤ 4294967295 by omega) (show yn0 ≤ 4294967295 by omega)) (by omega))
  by_cases ht : 4294967296 ≤ A ∨ 4294967296 * B + u1 < A * yn0
  · have hlt := Knuth.test_yes hsplit hu h1 inv ht
    have ha1 : 1 ≤ A := Nat.lt_of_le_of_lt (Nat.zero_le _) hlt
    by_cases hr : 4294967296 ≤ B + yn1
    · have hbr := Knuth.broke hsplit h0 hu inv hlt hr
      rw [hbr] at hqa
      by_cases hg : 4294967296 ≤ A
      · exact .inr (.inr (.inl ⟨by omega, by omega, by omega, by omega⟩))
      · exact .inr (.inr (.inr (.inl ⟨by omega, MW (by omega), by omega, by omega, by omega, by rw [Div.mulN]; omega⟩)))
    · have e1 : ((A : Int) - 1).toNat = A - 1 := by omega
      have e2 : ((B : Int) + yn1).toNat = B + yn1 := by omega
      rw [e1, e2]
      have hnx := Knuth.inv_next inv hlt (by omega)
      by_cases hg : 4294967296 ≤ A
      · exact .inl ⟨by omega, by omega, by omega, Lib.hid hnx⟩
      · exact .inr (.inl ⟨by omega, MW (by omega), by omega, by omega, Lib.hid hnx, by rw [Div.mulN]; omega⟩)
  · have hno := Knuth.test_no hsplit hu inv (by omega)
    rw [hno] at hqa
    exact .inr (.inr (.inr (.inr ⟨by omega, MW (by omega), by rw [Div.mulN]; omega, by omega⟩)))
end Div

set_option maxHeartbeats 400000 in
theorem div64_zero (lo y : Nat) (hy : 0 < y) (hl : lo < 18446744073709551616) (w : World) : Calls Tryz.prog 79 #[.int .u64 0, .int .u64 lo, .int .u64 y] w fun e w' => e = .returned (.tuple #[.int .u64 ((lo / y : Nat) : Int), .int .u64 ((lo % y : Nat) : Int)]) ∧ ∃ n, w' = w.drewN n := by
  have hy' : 0 < (y : Int) := by omega
  have hy2 : ((y : Int) == 0) = false := by rw [beq_eq_false_iff_ne]; omega
  have hy3 : ¬ y = 0 := by omega
  go_enter Tryz.func79, Tryz.ntmps79
  go_wp2
  go_quiet (fail)
  go_wp2
  go_ret2
  refine ⟨?_, _, rfl⟩
  have e : IntKind.u64.wrap ((lo : Int) / (y : Int)) = (lo : Int) / (y : Int) := by
    rw [← Int.natCast_ediv]; exact Div.wrapN _ (Nat.lt_of_le_of_lt (Nat.div_le_self _ _) hl)
  simp [e]

set_option maxHeartbeats 1000000 in
set_option maxRecDepth 100000 in
theorem div64_core (hi lo y s z yn1 yn0 hz lz un32 un10 un1 un0 q1 r1 un21 q2 r2 rr : Nat) (qa qb : Int) (hy : 0 < hi) (h : hi < y) (hb : y < 18446744073709551616)
    (es : IntKind.u64.wrap (64 - ↑(Lib.bitLen y)) = (s : Int))
    (ez : IntKind.u64.wrap (↑y * 2 ^ min s 64) = (z : Int))
    (e1 : (z : Int) / 4294967296 = ↑yn1) (e0 : bits BinOp.and IntKind.u64 ↑z 4294967295 = ↑yn0)
    (ehz : IntKind.u64.wrap (↑hi * 2 ^ min s 64) = (hz : Int)) (elz : (lo : Int) / 2 ^ min (IntKind.u64.wrap (64 - ↑s)).toNat 64 = ↑lz)
    (eu : bits BinOp.or IntKind.u64 ↑hz ↑lz = ↑un32) (eu10 : IntKind.u64.wrap (↑lo * 2 ^ min s 64) = (un10 : Int))
    (eu1 : (un10 : Int) / 4294967296 = ↑un1) (eu0 : bits BinOp.and IntKind.u64 ↑un10 4294967295 = ↑un0)
    (hn : ¬ yn1 = 0) (eq1 : IntKind.u64.wrap ((un32 : Int) / ↑yn1) = (q1 : Int)) (er1 : IntKind.u64.wrap (↑un32 - IntKind.u64.wrap (↑q1 * ↑yn1)) = (r1 : Int))
    (hsplit : Hid (z = yn1 * 4294967296 + yn0)) (hz1 : 2147483648 ≤ yn1) (hz2 : yn1 < 4294967296) (hz3 : yn0 < 4294967296) (hun1 : un1 < 4294967296) (hun0 : un0 < 4294967296)
    (hu : Hid (un32 < z)) (hqa : Hid ((((un32 * 4294967296 + un1) / z : Nat) : Int) = qa)) (inv1 : Knuth.Inv un32 z un1 yn1 q1 r1)
    (eun21 : IntKind.u64.wrap (IntKind.u64.wrap (IntKind.u64.wrap (↑un32 * 4294967296) + ↑un1) - IntKind.u64.wrap (qa * ↑z)) = (un21 : Int))
    (hu2 : Hid (un21 < z)) (eq2 : IntKind.u64.wrap ((un21 : Int) / ↑yn1) = (q2 : Int)) (er2 : IntKind.u64.wrap (↑un21 - IntKind.u64.wrap (↑q2 * ↑yn1)) = (r2 : Int))
    (hqb : Hid ((((un21 * 4294967296 + un0) / z : Nat) : Int) = qb)) (inv2 : Knuth.Inv un21 z un0 yn1 q2 r2)
    (hqa1 : 0 ≤ qa) (hqb1 : 0 ≤ qb) (hqa2 : qa < 4294967296) (hqb2 : qb < 4294967296)
    (err : IntKind.u64.wrap (IntKind.u64.wrap (IntKind.u64.wrap (↑un21 * 4294967296) + ↑un0) - IntKind.u64.wrap (qb * ↑z)) / 2 ^ min s 64 = (rr : Int))
    (w : World) : Calls Tryz.prog 79 #[.int .u64 hi, .int .u64 lo, .int .u64 y] w fun e w' => e = .returned (.tuple #[.int .u64 (qa * 4294967296 + qb), .int .u64 rr]) ∧ w = w' := by
  have h0 : ((hi : Int) == 0) = false := by rw [beq_eq_false_iff_ne]; omega
  have h2 : ((y : Int) == 0) = false := by rw [beq_eq_false_iff_ne]; omega
  have INV1 := Lib.hid inv1
  have INV2 := Lib.hid inv2
  clear inv1 inv2
  go_enter Tryz.func79, Tryz.ntmps79
  go_wp2_with (go_at_call 122; refine (Tryz.bits_LeadingZeros64 _ _ (by omega) (by omega)).mono ?_; rintro e w' ⟨rfl, rfl⟩)
  go_loop [15, 16] (fun q r => ∃ a b : Int, 0 ≤ a ∧ 0 ≤ b ∧ Hid (Knuth.Inv un32 z un1 yn1 a.toNat b.toNat) ∧ q = .int .u64 a ∧ r = .int .u64 b) (fun q _ => (intOf q).toNat)
  case atStart => exact ⟨q1, r1, by omega, by omega, INV1, rfl, rfl⟩
  clear hb h0 h2 es ez e1 e0 ehz elz eu eu10 eu1 eu0 eq1 er1 INV1
  case round =>
    obtain ⟨a, b, a0, b0, INV, rfl, rfl⟩ := hrel
    obtain ⟨⟨ha, hbb⟩, key⟩ := Div.key a b a0 b0 hsplit.out hu.out hun1 hz3 INV.out hqa.out
    clear INV hu
    rcases key with ⟨hg, hr, ha1, hinv⟩ | ⟨hg, mw, hr, ha1, hinv, ht⟩ | ⟨hg, hr, ha1, hqq⟩ | ⟨hg, mw, hr, ha1, hqq, ht⟩ | ⟨hg, mw, ht, rfl⟩
    · clear INV2 hu2 hqb err eun21 eq2 er2
      go_wp2
      go_round
      case rel => exact ⟨a - 1, b + yn1, by omega, by omega, hinv, rfl, rfl⟩
      case measure => simp [intOf]; omega
    · clear INV2 hu2 hqb err eun21 eq2 er2
      go_wp2
      go_round
      case rel => exact ⟨a - 1, b + yn1, by omega, by omega, hinv, rfl, rfl⟩
      case measure => simp [intOf]; omega
    all_goals
      go_wp2
      go_loop [18, 16] (fun q r => ∃ a b : Int, 0 ≤ a ∧ 0 ≤ b ∧ Hid (Knuth.Inv un21 z un0 yn1 a.toNat b.toNat) ∧ q = .int .u64 a ∧ r = .int .u64 b) (fun q _ => (intOf q).toNat)
      case atStart => exact ⟨q2, r2, by omega, by omega, INV2, rfl, rfl⟩
      case round =>
        clear INV2 eun21 eq2 er2
        obtain ⟨a, b, a0, b0, INV, rfl, rfl⟩ := hrel
        obtain ⟨⟨ha, hbb⟩, key⟩ := Div.key a b a0 b0 hsplit.out hu2.out hun0 hz3 INV.out hqb.out
        clear INV hu2
        rcases key with ⟨hg, hr, ha1, hinv⟩ | ⟨hg, mw, hr, ha1, hinv, ht⟩ | ⟨hg, hr, ha1, hqq⟩ | ⟨hg, mw, hr, ha1, hqq, ht⟩ | ⟨hg, mw, ht, rfl⟩
        · go_wp2
          go_round
          case rel => exact ⟨a - 1, b + yn1, by omega, by omega, hinv, rfl, rfl⟩
          case measure => simp [intOf]; omega
        · go_wp2
          go_round
          case rel => exact ⟨a - 1, b + yn1, by omega, by omega, hinv, rfl, rfl⟩
          case measure => simp [intOf]; omega
        all_goals
          go_wp2
          go_ret2
          exact ⟨rfl, rfl⟩
end Go.Proofs.YtbeikfopneeodaaGreat
namespace Go.Proofs.YtbeikfopneeodaaGreat
open Go.RowKit

namespace Div
theorem maskN (a : Nat) (ha : a < 18446744073709551616) : bits .and .u64 (a : Int) 4294967295 = ((a % 4294967296 : Nat) : Int) := by
  have h := bits_and_u64_nat a 4294967295 ha (by omega)
  have e : a &&& 4294967295 = a % 4294967296 := Nat.and_two_pow_sub_one_eq_mod a 32
  rw [e] at h
  exact h

theorem len_bounds (y : Nat) (h0 : 0 < y) (h : y < 18446744073709551616) :
    1 ≤ Lib.bitLen y ∧ Lib.bitLen y ≤ 64 ∧ 2 ^ (Lib.bitLen y - 1) ≤ y ∧ y < 2 ^ Lib.bitLen y := by
  obtain ⟨a, b, c⟩ := Lib.bitLenAux_bounds 64 y (by omega) (by omega)
  exact ⟨a, Lib.bitLen_le y 64 (by omega) (by omega), b, c⟩

theorem pow_split (s : Nat) (h : s ≤ 64) : 2 ^ s * 2 ^ (64 - s) = 18446744073709551616 := by
  rw [← Nat.pow_add, show s + (64 - s) = 64 by omega]

/-- what the shifted numbers are, with K = 2^s and M = 2^(64 - s) -/
theorem shifted (hi lo y K M : Nat) (hK : 0 < K) (hM : 0 < M) (hKM : K * M = 18446744073709551616) (h : hi < y) (hl : lo < 18446744073709551616) :
    lo / M < K ∧ hi * K + lo / M < y * K ∧ (hi * K + lo / M) * 18446744073709551616 + lo * K % 18446744073709551616 = (hi * 18446744073709551616 + lo) * K := by
  have h1 : lo / M < K := by rw [Nat.div_lt_iff_lt_mul hM, hKM]; exact hl
  refine ⟨h1, ?_, ?_⟩
  · have : (hi + 1) * K ≤ y * K := Nat.mul_le_mul_right _ h
    rw [Nat.add_mul, Nat.one_mul] at this
    omega
  · have e : lo * K / 18446744073709551616 = lo / M := by
      rw [← hKM, Nat.mul_comm K M, Nat.mul_div_mul_right _ _ hK]
    have hd := Nat.div_add_mod (lo * K) 18446744073709551616
    rw [e] at hd
    have e3 : hi * 18446744073709551616 * K = hi * K * 18446744073709551616 := by
      rw [Nat.mul_assoc, Nat.mul_comm _ K, ← Nat.mul_assoc]
    rw [Nat.add_mul (hi * 18446744073709551616), e3]
    omega

theorem rem_le (n z q : Nat) (hq : n / z = q) : q * z ≤ n ∧ n - q * z = n % z := by
  have h1 := Nat.div_add_mod n z
  rw [hq, Nat.mul_comm] at h1
  omega
end Div

theorem div64_mid (hi lo y s z hz lz u u10 K : Nat) (hy : 0 < hi) (h : hi < y) (hb : y < 18446744073709551616)
    (es : IntKind.u64.wrap (64 - ↑(Lib.bitLen y)) = (s : Int))
    (ez : IntKind.u64.wrap (↑y * 2 ^ min s 64) = (z : Int))
    (ehz : IntKind.u64.wrap (↑hi * 2 ^ min s 64) = (hz : Int)) (elz : (lo : Int) / 2 ^ min (IntKind.u64.wrap (64 - ↑s)).toNat 64 = ↑lz)
    (eu : bits BinOp.or IntKind.u64 ↑hz ↑lz = ↑u) (eu10 : IntKind.u64.wrap (↑lo * 2 ^ min s 64) = (u10 : Int))
    (zlo : 9223372036854775808 ≤ z) (zhi : z < 18446744073709551616) (S2 : u < z) (hu10 : u10 < 18446744073709551616)
    (hpm : ∀ a : Nat, (a : Int) / 2 ^ min s 64 = ((a / K : Nat) : Int)) (w : World) :
    Calls Tryz.prog 79 #[.int .u64 hi, .int .u64 lo, .int .u64 y] w fun e w' =>
      e = .returned (.tuple #[.int .u64 (((u * 18446744073709551616 + u10) / z : Nat) : Int), .int .u64 (((u * 18446744073709551616 + u10) % z / K : Nat) : Int)]) ∧ w = w' := by
  obtain ⟨yn1, hyn1⟩ : ∃ n, n = z / 4294967296 := ⟨_, rfl⟩
  obtain ⟨yn0, hyn0⟩ : ∃ n, n = z % 4294967296 := ⟨_, rfl⟩
  obtain ⟨u1, hu1⟩ : ∃ n, n = u10 / 4294967296 := ⟨_, rfl⟩
  obtain ⟨u0, hu0⟩ : ∃ n, n = u10 % 4294967296 := ⟨_, rfl⟩
  have hsplit : z = yn1 * 4294967296 + yn0 := by omega
  have b1 : 2147483648 ≤ yn1 := by omega
  have b2 : yn1 < 4294967296 := by omega
  have b3 : yn0 < 4294967296 := by omega
  have b4 : u1 < 4294967296 := by omega
  have b5 : u0 < 4294967296 := by omega
  have div1 : ∀ n : Nat, n < z → IntKind.u64.wrap ((n : Int) / (yn1 : Int)) = ((n / yn1 : Nat) : Int) := fun n hn => by
    rw [← Int.natCast_ediv]; exact Div.wrapN _ (Nat.lt_of_le_of_lt (Nat.div_le_self _ _) (by omega))
  have div2 : ∀ n : Nat, n < z → IntKind.u64.wrap ((n : Int) - IntKind.u64.wrap (((n / yn1 : Nat) : Int) * (yn1 : Int))) = ((n - n / yn1 * yn1 : Nat) : Int) := fun n hn => by
    have hle : n / yn1 * yn1 ≤ n := Nat.div_mul_le_self _ _
    rw [Div.mulN, Div.wrapN _ (by omega)]; exact Div.subN _ _ hle (by omega)
  have rem : ∀ n m : Nat, n < z → m < 4294967296 → IntKind.u64.wrap (IntKind.u64.wrap (IntKind.u64.wrap (↑n * 4294967296) + ↑m) - IntKind.u64.wrap ((((n * 4294967296 + m) / z : Nat) : Int) * ↑z)) = (((n * 4294967296 + m) % z : Nat) : Int) := fun n m hn hm => by
    obtain ⟨R1, R2⟩ := Div.rem_le (n * 4294967296 + m) z _ rfl
    have hl : (n * 4294967296 + m) % z < z := Nat.mod_lt _ (by omega)
    rw [Div.mulN, show (n : Int) * 4294967296 = ((n * 4294967296 : Nat) : Int) by omega, ← R2]
    exact Div.rem_wrap _ _ _ R1 (by omega)
  have S3 : (u * 4294967296 + u1) % z < z := Nat.mod_lt _ (by omega)
  have hqa := Knuth.qt_lt (u1 := u1) S2 b4
  have hqb := Knuth.qt_lt (u1 := u0) S3 b5
  have tw := Knuth.two u u10 z (by omega)
  rw [← hu1, ← hu0, show u * 4294967296 * 4294967296 = u * 18446744073709551616 by omega] at tw
  refine (div64_core hi lo y s z yn1 yn0 hz lz u u10 u1 u0 _ _ ((u * 4294967296 + u1) % z) _ _ (((u * 4294967296 + u1) % z * 4294967296 + u0) % z / K) _ _ hy h hb es ez (by omega) ?_ ehz elz eu eu10 (by omega) ?_ (by omega) (div1 u S2) (div2 u S2)
    (Lib.hid hsplit) b1 b2 b3 b4 b5 (Lib.hid S2) (Lib.hid rfl) (Knuth.inv_start hsplit b1 b2 b3 S2 b4) (rem u u1 S2 b4) (Lib.hid S3) (div1 _ S3) (div2 _ S3) (Lib.hid rfl) (Knuth.inv_start hsplit b1 b2 b3 S3 b5) (Int.natCast_nonneg _) (Int.natCast_nonneg _) (Int.ofNat_lt.2 hqa) (Int.ofNat_lt.2 hqb) ?_ w).mono ?_
  · rw [Div.maskN z zhi, hyn0]
  · rw [Div.maskN u10 hu10, hu0]
  · rw [rem _ u0 S3 b5]; exact hpm _
  · rintro e w' ⟨he, hw⟩
    refine ⟨?_, hw⟩
    rw [he, tw.1, tw.2, Int.natCast_add, Int.natCast_mul]
    rfl

theorem div64_big (hi lo y : Nat) (hy : 0 < hi) (h : hi < y) (hb : y < 18446744073709551616) (hl : lo < 18446744073709551616) (w : World) :
    Calls Tryz.prog 79 #[.int .u64 hi, .int .u64 lo, .int .u64 y] w fun e w' =>
      e = .returned (.tuple #[.int .u64 (((hi * 18446744073709551616 + lo) / y : Nat) : Int), .int .u64 (((hi * 18446744073709551616 + lo) % y : Nat) : Int)]) ∧ w = w' := by
  obtain ⟨L1, L2, L3, L4⟩ := Div.len_bounds y (by omega) hb
  obtain ⟨s, hs⟩ : ∃ s, s = 64 - Lib.bitLen y := ⟨_, rfl⟩
  have hs64 : s < 64 := by omega
  have hKM := Div.pow_split s (by omega)
  have hK : 0 < 2 ^ s := Nat.two_pow_pos _
  have hM : 0 < 2 ^ (64 - s) := Nat.two_pow_pos _
  obtain ⟨S1, S2, S3⟩ := Div.shifted hi lo y (2 ^ s) (2 ^ (64 - s)) hK hM hKM h hl
  have hzlt : y * 2 ^ s < 18446744073709551616 := by
    rw [← hKM, Nat.mul_comm]; exact Nat.mul_lt_mul_of_pos_left (by rw [show 64 - s = Lib.bitLen y by omega]; exact L4) hK
  have hzge : 9223372036854775808 ≤ y * 2 ^ s := by
    have e : (2 : Nat) ^ (Lib.bitLen y - 1) * 2 ^ s = 9223372036854775808 := by
      rw [← Nat.pow_add, show Lib.bitLen y - 1 + s = 63 by omega]
    rw [← e]; exact Nat.mul_le_mul_right _ L3
  have hmin : min s 64 = s := by omega
  have hmin2 : (min (IntKind.u64.wrap (64 - (s : Int))).toNat 64) = 64 - s := by
    rw [IntKind.wrap_u64]; omega
  have es : IntKind.u64.wrap (64 - ↑(Lib.bitLen y)) = (s : Int) := by rw [IntKind.wrap_u64]; omega
  have pw : ∀ a : Nat, ((a : Int) * 2 ^ s) = ((a * 2 ^ s : Nat) : Int) := fun a => by rw [Int.natCast_mul, Int.natCast_pow]; rfl
  have ez : IntKind.u64.wrap (↑y * 2 ^ min s 64) = ((y * 2 ^ s : Nat) : Int) := by rw [hmin, pw]; exact Div.wrapN _ hzlt
  have hhz : hi * 2 ^ s < 18446744073709551616 := Nat.lt_of_le_of_lt (Nat.mul_le_mul_right _ (Nat.le_of_lt h)) hzlt
  have ehz : IntKind.u64.wrap (↑hi * 2 ^ min s 64) = ((hi * 2 ^ s : Nat) : Int) := by rw [hmin, pw]; exact Div.wrapN _ hhz
  have elz : (lo : Int) / 2 ^ min (IntKind.u64.wrap (64 - (s : Int))).toNat 64 = ((lo / 2 ^ (64 - s) : Nat) : Int) := by
    rw [hmin2, Int.natCast_ediv, Int.natCast_pow]; rfl
  have eu10 : IntKind.u64.wrap (↑lo * 2 ^ min s 64) = ((lo * 2 ^ s % 18446744073709551616 : Nat) : Int) := by rw [hmin, pw]; exact Div.wrapM _
  have eu : bits BinOp.or IntKind.u64 ((hi * 2 ^ s : Nat) : Int) ((lo / 2 ^ (64 - s) : Nat) : Int) = ((hi * 2 ^ s + lo / 2 ^ (64 - s) : Nat) : Int) := by
    rw [bits_or_u64_nat _ _ hhz (by omega), Nat.mul_comm hi, ← Nat.two_pow_add_eq_or_of_lt S1]
  have hpm : ∀ a : Nat, (a : Int) / 2 ^ min s 64 = ((a / 2 ^ s : Nat) : Int) := fun a => by rw [hmin, Int.natCast_ediv, Int.natCast_pow]; rfl
  have hsc := Knuth.scale (hi * 18446744073709551616 + lo) y (2 ^ s) hK
  rw [← S3] at hsc
  refine (div64_mid hi lo y s (y * 2 ^ s) (hi * 2 ^ s) (lo / 2 ^ (64 - s)) _ _ (2 ^ s) hy h hb es ez ehz elz eu eu10 hzge hzlt S2 (Nat.mod_lt _ (by omega)) hpm w).mono ?_
  rintro e w' ⟨he, hw⟩
  rw [hsc.1, hsc.2] at he
  exact ⟨he, hw⟩

set_option maxHeartbeats 400000 in
theorem div64_any (hi lo y : Nat) (h : hi < y) (hb : y < 18446744073709551616) (hl : lo < 18446744073709551616) (w : World) :
    Calls Tryz.prog 79 #[.int .u64 hi, .int .u64 lo, .int .u64 y] w fun e w' =>
      e = .returned (.tuple #[.int .u64 (((hi * 18446744073709551616 + lo) / y : Nat) : Int), .int .u64 (((hi * 18446744073709551616 + lo) % y : Nat) : Int)]) ∧ ∃ n, w' = w.drewN n := by
  by_cases h0 : hi = 0
  · subst h0
    refine (div64_zero lo y h hl w).mono ?_
    rintro e w' ⟨he, hw⟩
    rw [Nat.zero_mul, Nat.zero_add]
    exact ⟨he, hw⟩
  · refine (div64_big hi lo y (by omega) h hb hl w).mono ?_
    rintro e w' ⟨he, rfl⟩
    exact ⟨he, 0, rfl⟩
#print axioms div64_any
end Go.Proofs.YtbeikfopneeodaaGreat
