/- A slice of numbers that came in, in the words of these proofs. -/
import Derived.Test.YtlmgfcgakdanaaaRead
import Derived.Test.YtlmgfcgakdanaaaKit
namespace Go.Proofs.Ytlmgfcgakdanaaa
open Go.RowKit

theorem wf_i64 {n : Int} (h : (Lit.int .i64 n).wf = true) : -9223372036854775808 ≤ n ∧ n ≤ 9223372036854775807 := by
  have h1 : IntKind.i64.min = -9223372036854775808 := by decide
  have h2 : IntKind.i64.max = 9223372036854775807 := by decide
  simp only [Lit.wf, h1, h2, Bool.and_eq_true, decide_eq_true_eq] at h
  exact h
theorem wf_u8 {n : Int} (h : (Lit.int .u8 n).wf = true) : 0 ≤ n ∧ n ≤ 255 := by
  have h1 : IntKind.u8.min = 0 := by decide
  have h2 : IntKind.u8.max = 255 := by decide
  simp only [Lit.wf, h1, h2, Bool.and_eq_true, decide_eq_true_eq] at h
  exact h

theorem rd_i64 {w : World} {v : Value} (h : Rd3 w [v]) : ∃ n : Int, v = .int .i64 n ∧ -9223372036854775808 ≤ n ∧ n ≤ 9223372036854775807 := by
  obtain ⟨n, h1, h2⟩ := h
  injection h1 with h1
  exact ⟨n, h1, wf_i64 h2⟩
/-- cells given element by element, as one function -/
theorem cells_of {w : World} {a : Addr} {n k : Nat} {P : Value → Prop} (h : ∀ i, i < n → ∃ cs : List Value, cs.length = k ∧ (∀ j, j < k → w.cell? (a.add (i * k + j)) = cs[j]?) ∧ ∀ v, v ∈ cs → P v) :
    ∃ f : Nat → Value, Cells w w.heap.size (some a) (n * k) f ∧ ∀ j, j < n * k → P (f j) := by
  have h' : ∀ m, ∃ v, m < n * k → w.cell? (a.add m) = some v ∧ P v := fun m => by
    by_cases hm : m < n * k
    · have hk : 0 < k := Nat.pos_of_ne_zero fun e => by subst e; simp at hm
      obtain ⟨cs, hl, hc, hp⟩ := h (m / k) (Nat.div_lt_of_lt_mul (by rw [Nat.mul_comm]; exact hm))
      have hr : m % k < k := Nat.mod_lt _ hk
      have e := hc (m % k) hr
      rw [Nat.mul_comm, Nat.div_add_mod, List.getElem?_eq_getElem (by omega)] at e
      exact ⟨_, fun _ => ⟨e, hp _ (List.getElem_mem _)⟩⟩
    · exact ⟨.bool false, fun h => absurd h hm⟩
  obtain ⟨f, hf⟩ := Classical.skolem.1 h'
  refine ⟨f, fun hn => ⟨a, rfl, ?_, fun j hj => (hf j hj).1⟩, fun j hj => (hf j hj).2⟩
  have := cell_lt (hf 0 hn).1
  rwa [add_block] at this

def IsI64 (v : Value) : Prop := ∃ z : Int, v = .int .i64 z ∧ -9223372036854775808 ≤ z ∧ z ≤ 9223372036854775807

/-- cells that hold integers, by a function of integers -/
theorem cells_ints {w : World} {B : Nat} {A : Option Addr} {n : Nat} {f : Nat → Value} (h : Cells w B A n f) (hp : ∀ j, j < n → IsI64 (f j)) :
    ∃ z : Nat → Int, Cells w B A n (fun j => .int .i64 (z j)) ∧ ∀ j, j < n → -9223372036854775808 ≤ z j ∧ z j ≤ 9223372036854775807 := by
  have h' : ∀ j, ∃ z : Int, j < n → f j = .int .i64 z ∧ -9223372036854775808 ≤ z ∧ z ≤ 9223372036854775807 := fun j => by
    by_cases hj : j < n
    · obtain ⟨z, hz⟩ := hp j hj
      exact ⟨z, fun _ => hz⟩
    · exact ⟨0, fun h => absurd h hj⟩
  obtain ⟨z, hz⟩ := Classical.skolem.1 h'
  exact ⟨z, h.congr fun j hj => (hz j hj).1, fun j hj => (hz j hj).2⟩

theorem rd_ints {w : World} {v : Value} (h : Rd24 w [v]) : ∃ (A : Option Addr) (n c : Nat) (z : Nat → Int), v = .slice A n c ∧ n ≤ 9223372036854775807 ∧ n ≤ c ∧ (A = none → n = 0 ∧ c = 0) ∧
    Cells w w.heap.size A n (fun j => .int .i64 (z j)) ∧ ∀ j, j < n → -9223372036854775808 ≤ z j ∧ z j ≤ 9223372036854775807 := by
  rcases h with h | ⟨a, len, cap, h, h1, h2, h3⟩
  · injection h with h
    exact ⟨none, 0, 0, fun _ => 0, h, by omega, by omega, fun _ => ⟨rfl, rfl⟩, Cells.zero, fun j hj => absurd hj (by omega)⟩
  · injection h with h
    obtain ⟨f, hc, hp⟩ := cells_of (n := len) (k := 1) (P := IsI64) fun i hi => by
      obtain ⟨cs, hl, hcc, n, hn, hw⟩ := h3 i (by omega)
      exact ⟨cs, hl, hcc, fun v hv => by rw [hn] at hv; simp at hv; exact ⟨n, hv, wf_i64 hw⟩⟩
    rw [Nat.mul_one] at hc hp
    obtain ⟨z, hz, hb⟩ := cells_ints hc hp
    exact ⟨some a, len, cap, z, h, by unfold maxLen at h2; omega, h1, (fun e => by cases e), hz, hb⟩
end Go.Proofs.Ytlmgfcgakdanaaa
