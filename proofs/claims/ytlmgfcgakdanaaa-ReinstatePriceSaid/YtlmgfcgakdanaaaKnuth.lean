/- The plain arithmetic behind math/bits.Div64 (long division by two digits of 32 bits), on natural numbers; no program in sight. -/
import Derived.WalkKit
namespace Go.Proofs.Ytlmgfcgakdanaaa.Knuth

theorem qt_lt {u z u1 : Nat} (hu : u < z) (h1 : u1 < 4294967296) : (u * 4294967296 + u1) / z < 4294967296 := by
  rw [Nat.div_lt_iff_lt_mul (by omega)]
  have : (u + 1) * 4294967296 ≤ z * 4294967296 := Nat.mul_le_mul_right _ hu
  rw [Nat.mul_comm 4294967296 z]; omega

theorem mul_split (q yn1 yn0 z : Nat) (hz : z = yn1 * 4294967296 + yn0) : q * z = q * yn1 * 4294967296 + q * yn0 := by
  rw [hz, Nat.mul_add, Nat.mul_assoc]

theorem start_le {u z u1 yn1 yn0 : Nat} (hz : z = yn1 * 4294967296 + yn0) (hp : 0 < yn1) (h1 : u1 < 4294967296) :
    (u * 4294967296 + u1) / z ≤ u / yn1 := by
  generalize hq : (u * 4294967296 + u1) / z = q
  have h := Nat.div_mul_le_self (u * 4294967296 + u1) z
  rw [hq, mul_split q yn1 yn0 z hz] at h
  rw [Nat.le_div_iff_mul_le hp]
  generalize q * yn1 = a at *
  generalize q * yn0 = b at *
  omega

theorem start_hi {u z yn1 yn0 : Nat} (hz : z = yn1 * 4294967296 + yn0) (hp : 2147483648 ≤ yn1) (h0 : yn0 < 4294967296) (hu : u < z) :
    u / yn1 ≤ 4294967297 := by
  have : u / yn1 < 4294967298 := by
    rw [Nat.div_lt_iff_lt_mul (by omega)]; omega
  omega

/-- the relation of the loop -/
def Inv (u z u1 yn1 q r : Nat) : Prop := q * yn1 + r = u ∧ (u * 4294967296 + u1) / z ≤ q ∧ q ≤ 4294967297 ∧ r < 4294967296

theorem inv_start {u z u1 yn1 yn0 : Nat} (hz : z = yn1 * 4294967296 + yn0) (hp : 2147483648 ≤ yn1) (hq : yn1 < 4294967296) (h0 : yn0 < 4294967296) (hu : u < z) (h1 : u1 < 4294967296) :
    Inv u z u1 yn1 (u / yn1) (u - u / yn1 * yn1) := by
  have hm := Nat.div_add_mod u yn1
  have hl := Nat.mod_lt u (show yn1 > 0 by omega)
  rw [Nat.mul_comm] at hm
  refine ⟨?_, start_le hz (by omega) h1, start_hi hz hp h0 hu, ?_⟩
  · generalize u / yn1 * yn1 = t at *; omega
  · generalize u / yn1 * yn1 = t at *; omega

theorem test_yes {u z u1 yn1 yn0 q r : Nat} (hz : z = yn1 * 4294967296 + yn0) (hu : u < z) (h1 : u1 < 4294967296) (hi : Inv u z u1 yn1 q r)
    (ht : 4294967296 ≤ q ∨ 4294967296 * r + u1 < q * yn0) : (u * 4294967296 + u1) / z < q := by
  rcases ht with ht | ht
  · exact Nat.lt_of_lt_of_le (qt_lt hu h1) ht
  · rw [Nat.div_lt_iff_lt_mul (by omega), mul_split q yn1 yn0 z hz]
    have := hi.1
    generalize q * yn1 = a at *
    generalize q * yn0 = b at *
    omega

theorem test_no {u z u1 yn1 yn0 q r : Nat} (hz : z = yn1 * 4294967296 + yn0) (hu : u < z) (hi : Inv u z u1 yn1 q r)
    (h3 : q * yn0 ≤ 4294967296 * r + u1) : (u * 4294967296 + u1) / z = q := by
  apply Nat.le_antisymm hi.2.1
  rw [Nat.le_div_iff_mul_le (by omega), mul_split q yn1 yn0 z hz]
  have := hi.1
  generalize q * yn1 = a at *
  generalize q * yn0 = b at *
  omega

theorem inv_next {u z u1 yn1 q r : Nat} (hi : Inv u z u1 yn1 q r) (ht : (u * 4294967296 + u1) / z < q) (hr : r + yn1 < 4294967296) :
    Inv u z u1 yn1 (q - 1) (r + yn1) := by
  obtain ⟨q, rfl⟩ : ∃ k, q = k + 1 := ⟨q - 1, by have := Nat.lt_of_le_of_lt (Nat.zero_le _) ht; omega⟩
  have h := hi.1
  rw [Nat.add_mul, Nat.one_mul] at h
  have := hi.2.2.1
  exact ⟨by rw [Nat.add_sub_cancel]; omega, by omega, by omega, hr⟩

theorem broke {u z u1 yn1 yn0 q r : Nat} (hz : z = yn1 * 4294967296 + yn0) (h0 : yn0 < 4294967296) (hu : u < z) (hi : Inv u z u1 yn1 q r)
    (ht : (u * 4294967296 + u1) / z < q) (hr : 4294967296 ≤ r + yn1) : (u * 4294967296 + u1) / z = q - 1 := by
  obtain ⟨q, rfl⟩ : ∃ k, q = k + 1 := ⟨q - 1, by have := Nat.lt_of_le_of_lt (Nat.zero_le _) ht; omega⟩
  rw [Nat.add_sub_cancel]
  apply Nat.le_antisymm (by omega)
  rw [Nat.le_div_iff_mul_le (by omega), mul_split q yn1 yn0 z hz]
  have h := hi.1
  have h5 := hi.2.2.1
  rw [Nat.add_mul, Nat.one_mul] at h
  have : q * yn0 ≤ 4294967296 * 4294967295 := Nat.mul_le_mul (by omega) (by omega)
  generalize q * yn1 = a at *
  generalize q * yn0 = b at *
  omega

theorem two_aux (m t x u : Nat) (h : t + x = m) : m * 4294967296 + u = (x * 4294967296 + u) + t * 4294967296 := by omega

theorem two' (n u10 z m : Nat) (hz : 0 < z) (hm : m = n * 4294967296 + u10 / 4294967296) :
    (n * 4294967296 * 4294967296 + u10) / z = m / z * 4294967296 + (m % z * 4294967296 + u10 % 4294967296) / z ∧
    (n * 4294967296 * 4294967296 + u10) % z = (m % z * 4294967296 + u10 % 4294967296) % z := by
  have e : n * 4294967296 * 4294967296 + u10 = m * 4294967296 + u10 % 4294967296 := by omega
  rw [e]
  have hd := Nat.div_add_mod m z
  have e2 : m * 4294967296 + u10 % 4294967296 = (m % z * 4294967296 + u10 % 4294967296) + z * (m / z * 4294967296) := by
    rw [← Nat.mul_assoc]
    exact two_aux m _ _ _ hd
  rw [e2, Nat.add_mul_div_left _ _ hz, Nat.add_mul_mod_self_left]
  exact ⟨by omega, rfl⟩

/-- the two digits together -/
theorem two (n u10 z : Nat) (hz : 0 < z) :
    (n * 4294967296 * 4294967296 + u10) / z = (n * 4294967296 + u10 / 4294967296) / z * 4294967296 + ((n * 4294967296 + u10 / 4294967296) % z * 4294967296 + u10 % 4294967296) / z ∧
    (n * 4294967296 * 4294967296 + u10) % z = ((n * 4294967296 + u10 / 4294967296) % z * 4294967296 + u10 % 4294967296) % z :=
  two' n u10 z _ hz rfl

/-- scaling by a power of two -/
theorem scale (n y k : Nat) (hk : 0 < k) : n * k / (y * k) = n / y ∧ n * k % (y * k) / k = n % y := by
  constructor
  · exact Nat.mul_div_mul_right _ _ hk
  · rw [Nat.mul_mod_mul_right, Nat.mul_div_cancel _ hk]

end Go.Proofs.Ytlmgfcgakdanaaa.Knuth
