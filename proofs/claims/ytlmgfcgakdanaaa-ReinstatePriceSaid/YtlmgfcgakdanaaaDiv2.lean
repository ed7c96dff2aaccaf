/- math/bits.Div64 returns the quotient and the remainder of (hi * 2^64 + lo) / y, for hi < y: the normalised numbers handed to the walk. -/
import Derived.Test.YtlmgfcgakdanaaaDiv
import Derived.Lib.ItoaNum
namespace Go.Proofs.Ytlmgfcgakdanaaa
open Go.RowKit

namespace Div
theorem maskN (a : Nat) (ha : a < 18446744073709551616) : bits .and .u64 (a : Int) 4294967295 = ((a % 4294967296 : Nat) : Int) := by
  have h := bits_and_u64_nat a 4294967295 ha (by omega)
  have e : a &&& 4294967295 = a % 4294967296 := Nat.and_two_pow_sub_one_eq_mod a 32
  rw [e] at h
  exact h

theorem len_bounds (y : Nat) (h0 : 0 < y) (h : y < 18446744073709551616) :
    1 ≤ Lib.bitLen y ∧ Lib.bitLen y ≤ 64 ∧ 2 ^ (Lib.bitLen y - 1) ≤ y ∧ y < 2 ^ Lib.bitLen y := by
  obtain ⟨a, b, c⟩ := Lib.bitLenAux_bounds 64 y (by omega) (by omega)
  exact ⟨a, Lib.bitLen_le y 64 (by omega) (by omega), b, c⟩

theorem pow_split (s : Nat) (h : s ≤ 64) : 2 ^ s * 2 ^ (64 - s) = 18446744073709551616 := by
  rw [← Nat.pow_add, show s + (64 - s) = 64 by omega]

/-- what the shifted numbers are, with K = 2^s and M = 2^(64 - s) -/
theorem shifted (hi lo y K M : Nat) (hK : 0 < K) (hM : 0 < M) (hKM : K * M = 18446744073709551616) (h : hi < y) (hl : lo < 18446744073709551616) :
    lo / M < K ∧ hi * K + lo / M < y * K ∧ (hi * K + lo / M) * 18446744073709551616 + lo * K % 18446744073709551616 = (hi * 18446744073709551616 + lo) * K := by
  have h1 : lo / M < K := by rw [Nat.div_lt_iff_lt_mul hM, hKM]; exact hl
  refine ⟨h1, ?_, ?_⟩
  · have : (hi + 1) * K ≤ y * K := Nat.mul_le_mul_right _ h
    rw [Nat.add_mul, Nat.one_mul] at this
    omega
  · have e : lo * K / 18446744073709551616 = lo / M := by
      rw [← hKM, Nat.mul_comm K M, Nat.mul_div_mul_right _ _ hK]
    have hd := Nat.div_add_mod (lo * K) 18446744073709551616
    rw [e] at hd
    have e3 : hi * 18446744073709551616 * K = hi * K * 18446744073709551616 := by
      rw [Nat.mul_assoc, Nat.mul_comm _ K, ← Nat.mul_assoc]
    rw [Nat.add_mul (hi * 18446744073709551616), e3]
    omega

theorem rem_le (n z q : Nat) (hq : n / z = q) : q * z ≤ n ∧ n - q * z = n % z := by
  have h1 := Nat.div_add_mod n z
  rw [hq, Nat.mul_comm] at h1
  omega
end Div

theorem div64_mid (hi lo y s z hz lz u u10 K : Nat) (hy : 0 < hi) (h : hi < y) (hb : y < 18446744073709551616)
    (es : IntKind.u64.wrap (64 - ↑(Lib.bitLen y)) = (s : Int))
    (ez : IntKind.u64.wrap (↑y * 2 ^ min s 64) = (z : Int))
    (ehz : IntKind.u64.wrap (↑hi * 2 ^ min s 64) = (hz : Int)) (elz : (lo : Int) / 2 ^ min (IntKind.u64.wrap (64 - ↑s)).toNat 64 = ↑lz)
    (eu : bits BinOp.or IntKind.u64 ↑hz ↑lz = ↑u) (eu10 : IntKind.u64.wrap (↑lo * 2 ^ min s 64) = (u10 : Int))
    (zlo : 9223372036854775808 ≤ z) (zhi : z < 18446744073709551616) (S2 : u < z) (hu10 : u10 < 18446744073709551616)
    (hpm : ∀ a : Nat, (a : Int) / 2 ^ min s 64 = ((a / K : Nat) : Int)) (w : World) :
    Calls Try.prog 51 #[.int .u64 hi, .int .u64 lo, .int .u64 y] w fun e w' =>
      e = .returned (.tuple #[.int .u64 (((u * 18446744073709551616 + u10) / z : Nat) : Int), .int .u64 (((u * 18446744073709551616 + u10) % z / K : Nat) : Int)]) ∧ w = w' := by
  obtain ⟨yn1, hyn1⟩ : ∃ n, n = z / 4294967296 := ⟨_, rfl⟩
  obtain ⟨yn0, hyn0⟩ : ∃ n, n = z % 4294967296 := ⟨_, rfl⟩
  obtain ⟨u1, hu1⟩ : ∃ n, n = u10 / 4294967296 := ⟨_, rfl⟩
  obtain ⟨u0, hu0⟩ : ∃ n, n = u10 % 4294967296 := ⟨_, rfl⟩
  have hsplit : z = yn1 * 4294967296 + yn0 := by omega
  have b1 : 2147483648 ≤ yn1 := by omega
  have b2 : yn1 < 4294967296 := by omega
  have b3 : yn0 < 4294967296 := by omega
  have b4 : u1 < 4294967296 := by omega
  have b5 : u0 < 4294967296 := by omega
  have div1 : ∀ n : Nat, n < z → IntKind.u64.wrap ((n : Int) / (yn1 : Int)) = ((n / yn1 : Nat) : Int) := fun n hn => by
    rw [← Int.natCast_ediv]; exact Div.wrapN _ (Nat.lt_of_le_of_lt (Nat.div_le_self _ _) (by omega))
  have div2 : ∀ n : Nat, n < z → IntKind.u64.wrap ((n : Int) - IntKind.u64.wrap (((n / yn1 : Nat) : Int) * (yn1 : Int))) = ((n - n / yn1 * yn1 : Nat) : Int) := fun n hn => by
    have hle : n / yn1 * yn1 ≤ n := Nat.div_mul_le_self _ _
    rw [Div.mulN, Div.wrapN _ (by omega)]; exact Div.subN _ _ hle (by omega)
  have rem : ∀ n m : Nat, n < z → m < 4294967296 → IntKind.u64.wrap (IntKind.u64.wrap (IntKind.u64.wrap (↑n * 4294967296) + ↑m) - IntKind.u64.wrap ((((n * 4294967296 + m) / z : Nat) : Int) * ↑z)) = (((n * 4294967296 + m) % z : Nat) : Int) := fun n m hn hm => by
    obtain ⟨R1, R2⟩ := Div.rem_le (n * 4294967296 + m) z _ rfl
    have hl : (n * 4294967296 + m) % z < z := Nat.mod_lt _ (by omega)
    rw [Div.mulN, show (n : Int) * 4294967296 = ((n * 4294967296 : Nat) : Int) by omega, ← R2]
    exact Div.rem_wrap _ _ _ R1 (by omega)
  have S3 : (u * 4294967296 + u1) % z < z := Nat.mod_lt _ (by omega)
  have hqa := Knuth.qt_lt (u1 := u1) S2 b4
  have hqb := Knuth.qt_lt (u1 := u0) S3 b5
  have tw := Knuth.two u u10 z (by omega)
  rw [← hu1, ← hu0, show u * 4294967296 * 4294967296 = u * 18446744073709551616 by omega] at tw
  refine (div64_core hi lo y s z yn1 yn0 hz lz u u10 u1 u0 _ _ ((u * 4294967296 + u1) % z) _ _ (((u * 4294967296 + u1) % z * 4294967296 + u0) % z / K) _ _ hy h hb es ez (by omega) ?_ ehz elz eu eu10 (by omega) ?_ (by omega) (div1 u S2) (div2 u S2)
    (Lib.hid hsplit) b1 b2 b3 b4 b5 (Lib.hid S2) (Lib.hid rfl) (Knuth.inv_start hsplit b1 b2 b3 S2 b4) (rem u u1 S2 b4) (Lib.hid S3) (div1 _ S3) (div2 _ S3) (Lib.hid rfl) (Knuth.inv_start hsplit b1 b2 b3 S3 b5) (Int.natCast_nonneg _) (Int.natCast_nonneg _) (Int.ofNat_lt.2 hqa) (Int.ofNat_lt.2 hqb) ?_ w).mono ?_
  · rw [Div.maskN z zhi, hyn0]
  · rw [Div.maskN u10 hu10, hu0]
  · rw [rem _ u0 S3 b5]; exact hpm _
  · rintro e w' ⟨he, hw⟩
    refine ⟨?_, hw⟩
    rw [he, tw.1, tw.2, Int.natCast_add, Int.natCast_mul]
    rfl

theorem div64_big (hi lo y : Nat) (hy : 0 < hi) (h : hi < y) (hb : y < 18446744073709551616) (hl : lo < 18446744073709551616) (w : World) :
    Calls Try.prog 51 #[.int .u64 hi, .int .u64 lo, .int .u64 y] w fun e w' =>
      e = .returned (.tuple #[.int .u64 (((hi * 18446744073709551616 + lo) / y : Nat) : Int), .int .u64 (((hi * 18446744073709551616 + lo) % y : Nat) : Int)]) ∧ w = w' := by
  obtain ⟨L1, L2, L3, L4⟩ := Div.len_bounds y (by omega) hb
  obtain ⟨s, hs⟩ : ∃ s, s = 64 - Lib.bitLen y := ⟨_, rfl⟩
  have hs64 : s < 64 := by omega
  have hKM := Div.pow_split s (by omega)
  have hK : 0 < 2 ^ s := Nat.two_pow_pos _
  have hM : 0 < 2 ^ (64 - s) := Nat.two_pow_pos _
  obtain ⟨S1, S2, S3⟩ := Div.shifted hi lo y (2 ^ s) (2 ^ (64 - s)) hK hM hKM h hl
  have hzlt : y * 2 ^ s < 18446744073709551616 := by
    rw [← hKM, Nat.mul_comm]; exact Nat.mul_lt_mul_of_pos_left (by rw [show 64 - s = Lib.bitLen y by omega]; exact L4) hK
  have hzge : 9223372036854775808 ≤ y * 2 ^ s := by
    have e : (2 : Nat) ^ (Lib.bitLen y - 1) * 2 ^ s = 9223372036854775808 := by
      rw [← Nat.pow_add, show Lib.bitLen y - 1 + s = 63 by omega]
    rw [← e]; exact Nat.mul_le_mul_right _ L3
  have hmin : min s 64 = s := by omega
  have hmin2 : (min (IntKind.u64.wrap (64 - (s : Int))).toNat 64) = 64 - s := by
    rw [IntKind.wrap_u64]; omega
  have es : IntKind.u64.wrap (64 - ↑(Lib.bitLen y)) = (s : Int) := by rw [IntKind.wrap_u64]; omega
  have pw : ∀ a : Nat, ((a : Int) * 2 ^ s) = ((a * 2 ^ s : Nat) : Int) := fun a => by rw [Int.natCast_mul, Int.natCast_pow]; rfl
  have ez : IntKind.u64.wrap (↑y * 2 ^ min s 64) = ((y * 2 ^ s : Nat) : Int) := by rw [hmin, pw]; exact Div.wrapN _ hzlt
  have hhz : hi * 2 ^ s < 18446744073709551616 := Nat.lt_of_le_of_lt (Nat.mul_le_mul_right _ (Nat.le_of_lt h)) hzlt
  have ehz : IntKind.u64.wrap (↑hi * 2 ^ min s 64) = ((hi * 2 ^ s : Nat) : Int) := by rw [hmin, pw]; exact Div.wrapN _ hhz
  have elz : (lo : Int) / 2 ^ min (IntKind.u64.wrap (64 - (s : Int))).toNat 64 = ((lo / 2 ^ (64 - s) : Nat) : Int) := by
    rw [hmin2, Int.natCast_ediv, Int.natCast_pow]; rfl
  have eu10 : IntKind.u64.wrap (↑lo * 2 ^ min s 64) = ((lo * 2 ^ s % 18446744073709551616 : Nat) : Int) := by rw [hmin, pw]; exact Div.wrapM _
  have eu : bits BinOp.or IntKind.u64 ((hi * 2 ^ s : Nat) : Int) ((lo / 2 ^ (64 - s) : Nat) : Int) = ((hi * 2 ^ s + lo / 2 ^ (64 - s) : Nat) : Int) := by
    rw [bits_or_u64_nat _ _ hhz (by omega), Nat.mul_comm hi, ← Nat.two_pow_add_eq_or_of_lt S1]
  have hpm : ∀ a : Nat, (a : Int) / 2 ^ min s 64 = ((a / 2 ^ s : Nat) : Int) := fun a => by rw [hmin, Int.natCast_ediv, Int.natCast_pow]; rfl
  have hsc := Knuth.scale (hi * 18446744073709551616 + lo) y (2 ^ s) hK
  rw [← S3] at hsc
  refine (div64_mid hi lo y s (y * 2 ^ s) (hi * 2 ^ s) (lo / 2 ^ (64 - s)) _ _ (2 ^ s) hy h hb es ez ehz elz eu eu10 hzge hzlt S2 (Nat.mod_lt _ (by omega)) hpm w).mono ?_
  rintro e w' ⟨he, hw⟩
  rw [hsc.1, hsc.2] at he
  exact ⟨he, hw⟩

set_option maxHeartbeats 400000 in
theorem div64_any (hi lo y : Nat) (h : hi < y) (hb : y < 18446744073709551616) (hl : lo < 18446744073709551616) (w : World) :
    Calls Try.prog 51 #[.int .u64 hi, .int .u64 lo, .int .u64 y] w fun e w' =>
      e = .returned (.tuple #[.int .u64 (((hi * 18446744073709551616 + lo) / y : Nat) : Int), .int .u64 (((hi * 18446744073709551616 + lo) % y : Nat) : Int)]) ∧ ∃ n, w' = w.drewN n := by
  by_cases h0 : hi = 0
  · subst h0
    refine (div64_zero lo y h hl w).mono ?_
    rintro e w' ⟨he, hw⟩
    rw [Nat.zero_mul, Nat.zero_add]
    exact ⟨he, hw⟩
  · refine (div64_big hi lo y (by omega) h hb hl w).mono ?_
    rintro e w' ⟨he, rfl⟩
    exact ⟨he, 0, rfl⟩
#print axioms div64_any
end Go.Proofs.Ytlmgfcgakdanaaa
