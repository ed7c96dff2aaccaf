/- The losses and retrocessions that the deck makes. -/
import Derived.Test.YtbeikfopneeodaaGreatMt41
import Derived.Test.YtbeikfopneeodaaGreatMt42
import Derived.Test.YtbeikfopneeodaaGreatMt02
import Derived.Test.YtbeikfopneeodaaGreatMt43
import Derived.Deep.AppendLies
import Derived.Deep.RegionLaw
namespace Go.Proofs.YtbeikfopneeodaaGreat
open Go.RowKit
set_option linter.unusedVariables false

set_option maxHeartbeats 1000000 in
theorem small_any (b : Nat) (w : World) (hd : IsDeck w b) :
    Calls Tryz.prog 14 #[.pointer (some ⟨b, 0, none⟩)] w (DeckPost b 0 268435455 w) := by
  have HD := Lib.hid hd
  clear hd
  go_enter Tryz.func14, Tryz.ntmps14
  go_wp2_with fail
  refine (next_any b 4 w HD.out (by omega) (by omega)).mono ?_
  rintro e w1 ⟨v, rfl, v0, v1, hk1, hd1⟩
  have HK1 := Lib.hid hk1
  have HD1 := Lib.hid hd1
  clear hk1 hd1 HD
  have hv : v = 0 ∨ v = 1 ∨ v = 2 ∨ v = 3 := by omega
  clear v0 v1
  rcases hv with rfl | rfl | rfl | rfl
  all_goals
    go_wp2_with fail
    refine (next_any b _ _ HD1.out (by omega) (by omega)).mono ?_
    rintro e w2 ⟨u, rfl, u0, u1, hk2, hd2⟩
    have HK2 : Hid (Keeps b w w2) := Lib.hid (HK1.out.trans hk2)
    have HD2 := Lib.hid hd2
    clear hk2 hd2 HD1 HK1
    go_wp2_with fail
    go_ret
    exact ⟨_, rfl, by omega, by omega, HK2.out, HD2.out⟩

/-- a list of retrocessions as cells -/
def retL (m : Nat) (R : Nat → Re.Rt) : List Value := (List.range (m * 5)).map fun j => .int .i64 ((R (j / 5)).at' (j % 5))
def Re.Rt.cells (r : Re.Rt) : List Value := [.int .i64 r.fr, .int .i64 r.ds, .int .i64 r.sh, .int .i64 r.re, .int .i64 r.li]
theorem retL_length (m : Nat) (R : Nat → Re.Rt) : (retL m R).length = m * 5 := by simp [retL]
theorem retL_get (m : Nat) (R : Nat → Re.Rt) (j : Nat) (h : j < m * 5) : (retL m R)[j]? = some (.int .i64 ((R (j / 5)).at' (j % 5))) := by simp [retL, h]
theorem cells_get (r : Re.Rt) (j : Nat) (h : j < 5) : r.cells[j]? = some (.int .i64 (r.at' j)) := by
  match j, h with
  | 0, _ => rfl
  | 1, _ => rfl
  | 2, _ => rfl
  | 3, _ => rfl
  | 4, _ => rfl
theorem retL_snoc (m : Nat) (R : Nat → Re.Rt) (r : Re.Rt) : retL (m + 1) (fun j => if j = m then r else R j) = retL m R ++ r.cells := by
  apply List.ext_getElem?
  intro j
  by_cases h1 : j < m * 5
  · rw [List.getElem?_append_left (by rw [retL_length]; exact h1), retL_get _ _ _ h1, retL_get _ _ _ (by omega)]
    rw [if_neg (by omega)]
  · rw [List.getElem?_append_right (by rw [retL_length]; omega), retL_length]
    by_cases h2 : j < (m + 1) * 5
    · rw [retL_get _ _ _ h2, cells_get r (j - m * 5) (by omega), if_pos (by omega), show j % 5 = j - m * 5 by omega]
    · rw [List.getElem?_eq_none (by rw [retL_length]; omega), List.getElem?_eq_none (by simp [Re.Rt.cells]; omega)]

/-- the call owns m retrocessions -/
def OwnR (w : World) (base : Nat) (v : Value) (m : Nat) (R : Nat → Re.Rt) : Prop := w.ownsRow base 42 5 v m (retL m R)

theorem OwnR.rets {w : World} {base m : Nat} {v : Value} {R : Nat → Re.Rt} (h : OwnR w base v m R) : ∃ (A : Option Addr) (c : Nat), v = .slice A m c ∧ Rets w w.heap.size A m R ∧ (∀ ad, A = some ad → base ≤ ad.block) ∧ (0 < m → ∃ g, A = some ⟨g, 0, none⟩) := by
  rcases h.2 with ⟨hv, h0⟩ | ⟨g, cap, cur, hv, hg, hh, hr⟩
  · subst h0
    exact ⟨none, 0, hv, Rets.zero, fun _ h => (by cases h), fun h => absurd h (by omega)⟩
  · have h' := h
    rw [hv] at h'
    refine ⟨_, cap, hv, Cells.of_own h' _ fun j hj => ?_, fun ad e => by injection e with e; subst e; exact hg, fun _ => ⟨g, rfl⟩⟩
    simp [retL]
theorem OwnR.keeps {w w' : World} {b base m : Nat} {v : Value} {R : Nat → Re.Rt} (h : OwnR w base v m R) (hk : Keeps b w w') (hb : b < base) : OwnR w' base v m R := own_keeps h hk hb

/-- what Retros returns -/
def RetrosPost (b : Nat) (w : World) (e : Ending) (w' : World) : Prop := ∃ (g n m : Nat) (v : Value) (o : Nat → Int) (R : Nat → Re.Rt), e = .returned (.tuple #[.slice (some ⟨g, 0, none⟩) n n, v]) ∧ 1 ≤ n ∧ n ≤ 5 ∧ m ≤ 6 ∧ w.heap.size ≤ g ∧
  Row w' g n 3 (fun i => .int .i64 (o i)) ∧ OwnR w' w.heap.size v m R ∧ (∀ q, v.ownBlock = some q → q ≠ g) ∧ (∀ i, i < n → 0 ≤ o i ∧ o i ≤ 268435455) ∧
  (∀ j, j < m → (0 ≤ (R j).fr ∧ (R j).fr < n ∧ 0 ≤ (R j).ds ∧ (R j).ds < n) ∧ (R j).fr ≠ (R j).ds ∧ Re.proper (R j) ∧ (R j).li ≤ 300) ∧ (∀ i, i < n → Re.shs R m i ≤ 1000000) ∧ Keeps b w w' ∧ IsDeck w' b
end Go.Proofs.YtbeikfopneeodaaGreat
