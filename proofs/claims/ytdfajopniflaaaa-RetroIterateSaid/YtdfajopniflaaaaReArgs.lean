/- Retrocessions that came in; what the deck makes is a market without fault. -/
import Derived.Test.YtdfajopniflaaaaArgs
import Derived.Test.YtdfajopniflaaaaReLi
import Derived.Test.YtdfajopniflaaaaReMath2
namespace Go.Proofs.Ytdfajopniflaaaa
open Go.RowKit
set_option linter.unusedVariables false

theorem rd_retro {w : World} {cs : List Value} (h : Rd48 w cs) : ∃ r : Re.Rt, cs = r.cells := by
  obtain ⟨v0, v1, v2, v3, v4, hv, r0, r1, r2, r3, r4⟩ := h
  obtain ⟨z0, rfl, _, _⟩ := rd_i64 r0
  obtain ⟨z1, rfl, _, _⟩ := rd_i64 r1
  obtain ⟨z2, rfl, _, _⟩ := rd_i64 r2
  obtain ⟨z3, rfl, _, _⟩ := rd_i64 r3
  obtain ⟨z4, rfl, _, _⟩ := rd_i64 r4
  exact ⟨⟨z0, z1, z2, z3, z4⟩, hv⟩

theorem rd_retros {w : World} {v : Value} (h : Rd23 w [v]) : ∃ (A : Option Addr) (n c : Nat) (R : Nat → Re.Rt), v = .slice A n c ∧ n ≤ 9223372036854775807 ∧ n ≤ c ∧ (A = none → n = 0 ∧ c = 0) ∧ Rets w w.heap.size A n R := by
  rcases h with h | ⟨a, len, cap, h, h1, h2, h3⟩
  · injection h with h
    exact ⟨none, 0, 0, fun _ => ⟨0, 0, 0, 0, 0⟩, h, by omega, by omega, fun _ => ⟨rfl, rfl⟩, Rets.zero⟩
  · injection h with h
    have h' : ∀ i, ∃ r : Re.Rt, i < len → ∀ j, j < 5 → w.cell? (a.add (i * 5 + j)) = some (.int .i64 (r.at' j)) := fun i => by
      by_cases hi : i < len
      · obtain ⟨cs, hl, hcc, hr⟩ := h3 i (by omega)
        obtain ⟨r, rfl⟩ := rd_retro hr
        exact ⟨r, fun _ j hj => by rw [hcc j hj, cells_get r j hj]⟩
      · exact ⟨⟨0, 0, 0, 0, 0⟩, fun h => absurd h hi⟩
    obtain ⟨R, hR⟩ := Classical.skolem.1 h'
    refine ⟨some a, len, cap, R, h, by unfold maxLen at h2; omega, h1, (fun e => by cases e), fun hn => ⟨a, rfl, ?_, fun j hj => ?_⟩⟩
    · have := cell_lt (hR 0 (by omega) 0 (by omega))
      rwa [add_block] at this
    · have := hR (j / 5) (by omega) (j % 5) (by omega)
      rw [show j / 5 * 5 + j % 5 = j by omega] at this
      exact this

theorem Re.verr_ok {n : Nat} {o : Nat → Int} {m : Nat} {R : Nat → Re.Rt} (hn1 : 1 ≤ n) (hn : n ≤ 16) (hm : m ≤ 24) (ho : ∀ i, i < n → 0 ≤ o i ∧ o i ≤ 1073741824)
    (hr : ∀ j, j < m → (0 ≤ (R j).fr ∧ (R j).fr < n ∧ 0 ≤ (R j).ds ∧ (R j).ds < n) ∧ (R j).fr ≠ (R j).ds ∧ Re.proper (R j)) (hs : ∀ i, i < n → Re.shs R m i ≤ 1000000) : Re.verr n o m R = 0 := by
  have h1 : scan (Re.oc o) n 0 = 0 := scan_fine _ _ _ fun j _ hj => if_pos (ho j (by omega))
  have h2 : scan (Re.rc n R) m 0 = 0 := scan_fine _ _ _ fun j _ hj => by
    obtain ⟨a, b, c⟩ := hr j (by omega)
    rw [Re.rc, if_neg (fun c => c a), if_neg b, if_neg (fun x => x c)]
  rw [Re.verr, if_neg (by omega), if_neg (by rw [h1]; simp), if_neg (by rw [h2]; simp), ← Re.shares_same n m R h2]
  exact scan_fine _ _ _ fun j _ hj => if_neg (by have := hs j (by omega); omega)

/-- what the deck makes, for the laws -/
theorem retros_use {b : Nat} {w w' : World} {e : Ending} (h : RetrosPost b w e w') (hb : b < w.heap.size) : ∃ (g n m : Nat) (A2 : Option Addr) (c2 : Nat) (o : Nat → Int) (R : Nat → Re.Rt), e = .returned (.tuple #[.slice (some ⟨g, 0, none⟩) n n, .slice A2 m c2]) ∧ 1 ≤ n ∧ n ≤ 5 ∧ m ≤ 6 ∧ w.heap.size ≤ g ∧
    Row w' g n 3 (fun i => .int .i64 (o i)) ∧ OwnR w' w.heap.size (.slice A2 m c2) m R ∧ Nums w' w'.heap.size (some ⟨g, 0, none⟩) n o ∧ Rets w' w'.heap.size A2 m R ∧ (∀ ad, A2 = some ad → w.heap.size ≤ ad.block ∧ ad.block ≠ g) ∧ (∀ i, i < n → 0 ≤ o i ∧ o i ≤ 268435455) ∧
    (∀ j, j < m → (0 ≤ (R j).fr ∧ (R j).fr < n ∧ 0 ≤ (R j).ds ∧ (R j).ds < n) ∧ (R j).fr ≠ (R j).ds ∧ Re.proper (R j) ∧ (R j).li ≤ 300) ∧ Re.verr n o m R = 0 ∧ Keeps b w w' ∧ IsDeck w' b := by
  obtain ⟨g, n, m, v, o, R, rfl, h1, h2, h3, h4, h5, h6, h7, h8, h9, h10, h11, h12⟩ := h
  obtain ⟨A2, c2, rfl, hr, hA, hg⟩ := h6.rets
  refine ⟨g, n, m, A2, c2, o, R, rfl, h1, h2, h3, h4, h5, h6, h5.cells, hr, fun ad e => ⟨hA ad e, ?_⟩, h8, h9, Re.verr_ok h1 (by omega) (by omega) (fun i hi => by have := h8 i hi; omega) (fun j hj => ⟨(h9 j hj).1, (h9 j hj).2.1, (h9 j hj).2.2.1⟩) h10, h11, h12⟩
  subst e
  rcases h6.2 with ⟨hv, _⟩ | ⟨q, cap, cur, hv, _⟩
  · cases hv
  · injection hv with hv
    injection hv with hv
    subst hv
    exact h7 q rfl
end Go.Proofs.Ytdfajopniflaaaa
