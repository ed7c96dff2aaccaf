/- slices.Grow and slices.Concat at cash; exchange.Add and exchange.Sub. -/
import Derived.Test.YtojpjglkdmmfjaaXnP
import Derived.Test.YtojpjglkdmmfjaaGrowP
import Derived.Laws.OwnMore
namespace Go.Proofs.Ytojpjglkdmmfjaa
open Go.RowKit
set_option linter.unusedVariables false

theorem size_zeroCells (z : Array Value) (n : Nat) : (Builtin.zeroCells z n).size = n * z.size := by simp [Builtin.zeroCells]

set_option maxRecDepth 100000 in
theorem grow_any (n : Nat) (w : World) (hn : n ≤ 1000) : Calls Try.prog 46 #[.slice none 0 0, .int .i64 n] w fun e w' => ∃ v, e = .returned v ∧ w'.ownsRow w.heap.size 37 2 v 0 [] ∧ Below w.heap.size w w' := by
  by_cases h0 : n = 0
  · subst h0
    refine (Any8.slices_Grow_room Try.growA none 0 0 0 w (by omega) (by omega) (by omega) (by omega)).mono ?_
    rintro e w' ⟨rfl, rfl⟩
    exact ⟨_, rfl, ⟨rfl, .inl ⟨rfl, rfl⟩⟩, Below.refl _ _⟩
  · obtain ⟨i0, hi0, hz0, hz1, hz2⟩ := info_parts cash_info
    refine (Any8.slices_Grow_grow Try.growA i0 _ hi0 hz0 (by omega) none 0 0 n [] w (by omega) (by omega) (by rw [hz2]; omega) (by omega) (by simp) (fun _ => rfl) (fun a h => by cases h)).mono ?_
    rintro e w' ⟨rfl, rfl⟩
    obtain ⟨G, hG⟩ : ∃ G, grownCap w (0 + n) 0 (Try.growA_ren.t 25) = G := ⟨_, rfl⟩
    have h1 := grownCap_ge w (0 + n) 0 (Try.growA_ren.t 25)
    have h2 := grownCap_le_maxLen w (0 + n) 0 (Try.growA_ren.t 25) (by unfold maxLen; omega)
    rw [hG] at h1 h2 ⊢
    refine ⟨_, rfl, ⟨rfl, .inr ⟨w.heap.size, G, _, rfl, Nat.le_refl _, heap_alloc_new w.drew _, by omega, h2, ?_, by simp⟩⟩, (Below.refl _ _).drew.alloc (Nat.le_refl _) _⟩
    rw [Array.size_append, Array.size_append, size_zeroCells, size_zeroCells]
    simp [Value.cells]
    omega

/-- the cells of n pairs -/
def pairL (n : Nat) (f g : Nat → Int) : List Value := (List.range (n * 2)).map (pairAt f g)
theorem pairL_length (n : Nat) (f g : Nat → Int) : (pairL n f g).length = n * 2 := by simp [pairL]
/-- one list behind another -/
def app (f1 f2 : Nat → Int) (n1 : Nat) (j : Nat) : Int := if j < n1 then f1 j else f2 (j - n1)
theorem pairL_app (n1 n2 : Nat) (f1 g1 f2 g2 : Nat → Int) : pairL n1 f1 g1 ++ pairL n2 f2 g2 = pairL (n1 + n2) (app f1 f2 n1) (app g1 g2 n1) := by
  apply List.ext_getElem
  · simp [pairL]; omega
  · intro i h1 h2
    simp only [pairL_length] at h2
    by_cases h : i < n1 * 2
    · rw [List.getElem_append_left (by rw [pairL_length]; exact h)]
      simp only [pairL, List.getElem_map, List.getElem_range]
      unfold pairAt app
      by_cases hp : i % 2 = 0
      · rw [if_pos hp, if_pos hp, if_pos (by omega)]
      · rw [if_neg hp, if_neg hp, if_pos (by omega)]
    · rw [List.getElem_append_right (by rw [pairL_length]; omega)]
      simp only [pairL, List.getElem_map, List.getElem_range, List.length_map, List.length_range]
      unfold pairAt app
      by_cases hp : i % 2 = 0
      · rw [if_pos hp, if_pos (by omega), if_neg (by omega), show (i - n1 * 2) / 2 = i / 2 - n1 by omega]
      · rw [if_neg hp, if_neg (by omega), if_neg (by omega), show (i - n1 * 2) / 2 = i / 2 - n1 by omega]
theorem Pairs.of_list {w : World} {base : Nat} {e : TypeId} {n c : Nat} {A : Option Addr} {f g : Nat → Int} (h : w.ownsRow base e 2 (.slice A n c) n (pairL n f g)) : Pairs w w.heap.size A n f g :=
  Cells.of_own h _ fun j hj => by simp [pairL]

/-- what Concat returns -/
def CatPost (n : Nat) (xs : List Value) (w : World) (e : Ending) (w' : World) : Prop := ∃ v, e = .returned v ∧ w'.ownsRow w.heap.size 37 2 v n xs ∧ Below w.heap.size w w'

set_option maxRecDepth 100000 in
set_option maxHeartbeats 4000000 in
theorem concat_any (S : Nat) (A1 A2 : Option Addr) (n1 c1 n2 c2 : Nat) (f1 g1 f2 g2 : Nat → Int) (w : World) (hS : Has w S #[.slice A1 n1 c1, .slice A2 n2 c2] 42) (hn1 : n1 ≤ 200) (hn2 : n2 ≤ 200) (hl1 : A1 = none → n1 = 0 ∧ c1 = 0) (hl2 : A2 = none → n2 = 0 ∧ c2 = 0)
    (hp1 : Pairs w w.heap.size A1 n1 f1 g1) (hp2 : Pairs w w.heap.size A2 n2 f2 g2) :
    Calls Try.prog 40 #[.slice (some ⟨S, 0, none⟩) 2 2] w (CatPost (n1 + n2) (pairL n1 f1 g1 ++ pairL n2 f2 g2) w) := by
  have HS := Lib.hid hS
  have HP1 := Lib.hid hp1
  have HP2 := Lib.hid hp2
  have HL1 := Lib.hid hl1
  have HL2 := Lib.hid hl2
  have hSl := hS.lt
  obtain ⟨s0, s1, s2⟩ := hS.rules
  obtain ⟨i0, hi0, hz0, hz1, hz2⟩ := info_parts cash_info
  have HI := Lib.hid hi0
  have HZ0 := Lib.hid hz0
  have HZ1 := Lib.hid hz1
  have HZ2 := Lib.hid hz2
  clear hS hp1 hp2 hl1 hl2 hi0 hz0 hz1 hz2
  go_enter Try.func40, Try.ntmps40
  go_wp2_with fail
  go_loop [3, 5, 11] (fun t _ i => ∃ k : Nat, k ≤ 2 ∧ i = .int .i64 k ∧ t = .int .i64 (if k = 0 then 0 else if k = 1 then (n1 : Int) else n1 + n2)) (fun _ _ i => 2 - (intOf i).toNat)
  case atStart => exact ⟨0, by omega, rfl, rfl⟩
  case round =>
    obtain ⟨k, hk, rfl, rfl⟩ := hrel
    rcases (show k = 0 ∨ k = 1 ∨ k = 2 by omega) with rfl | rfl | rfl
    · rw [if_pos rfl]
      go_wp2_with fail
      go_round
      case rel => exact ⟨1, by omega, by first | rfl | go_num, by simp⟩
      case measure => simp [intOf]
    · rw [if_neg (by omega), if_pos rfl]
      go_wp2_with fail
      go_round
      case rel => exact ⟨2, by omega, by first | rfl | go_num, by simp⟩
      case measure => simp [intOf]
    · rw [if_neg (by omega), if_neg (by omega)]
      have CG : Hid (Calls Try.prog 46 #[.slice none 0 0, .int .i64 ((n1 : Int) + n2)] w fun e w' => ∃ v, e = .returned v ∧ w'.ownsRow w.heap.size 37 2 v 0 [] ∧ Below w.heap.size w w') := Lib.hid (by
        have := grow_any (n1 + n2) w (by omega)
        rwa [show ((n1 + n2 : Nat) : Int) = (n1 : Int) + n2 by omega] at this)
      go_wp2_with fail
      refine CG.out.mono ?_
      rintro e w1 ⟨v, rfl, ho, hb⟩
      have HO := Lib.hid ho
      have HB := Lib.hid hb
      clear ho hb CG s0 s1 s2
      go_wp2_with fail
      go_loopw [6, 8, 27] (fun v _ i wr => ∃ k : Nat, k ≤ 2 ∧ i = .int .i64 k ∧ Hid (wr.ownsRow w.heap.size 37 2 v (if k = 0 then 0 else if k = 1 then n1 else n1 + n2) (if k = 0 then [] else if k = 1 then pairL n1 f1 g1 else pairL n1 f1 g1 ++ pairL n2 f2 g2)) ∧ Hid (Below w.heap.size w wr)) (fun _ _ i _ => 2 - (intOf i).toNat)
      case atStart => exact ⟨0, by omega, rfl, HO, HB⟩
      case round =>
        clear HO HB
        obtain ⟨k, hk, rfl, HO, HB⟩ := hrel
        obtain ⟨s0, s1, s2⟩ := (HS.out.below HB.out hSl).rules
        have hs := HB.out.size
        rcases (show k = 0 ∨ k = 1 ∨ k = 2 by omega) with rfl | rfl | rfl
        · rw [if_pos rfl, if_pos rfl] at HO
          go_wp2_with ((at_builtin; refine wpList_append_cells _ rfl _ _ 42 rfl w.heap.size 37 i0 _ 2 16 Try.underlying42 HI.out HZ0.out HZ1.out HZ2.out rfl (by omega) u6 0 [] rfl HO.out w.heap.size A1 n1 c1 (pairAt f1 g1) rfl (HP1.out.below HB.out) HL1.out (fun j _ => by unfold pairAt; split <;> rfl) (by unfold maxLen; omega) (by omega) hs ?_; intro v' w2 hown hgrow hat; have HO2 : Hid (w2.ownsRow w.heap.size 37 2 v' n1 (pairL n1 f1 g1)) := Lib.hid (by have := hown; rw [Nat.zero_add, List.nil_append] at this; exact this); have HB2 : Hid (Below w.heap.size w w2) := Lib.hid (HB.out.grown hgrow hs fun q hq => by obtain ⟨_, _, hg⟩ := own_form HO.out hq; exact hg); clear hown hgrow hat))
          go_roundw
          case rel => exact ⟨1, by omega, by first | rfl | go_num, by simpa using HO2, HB2⟩
          case measure => simp [intOf]
        · rw [if_neg (by omega), if_pos rfl, if_neg (by omega), if_pos rfl] at HO
          go_wp2_with ((at_builtin; refine wpList_append_cells _ rfl _ _ 42 rfl w.heap.size 37 i0 _ 2 16 Try.underlying42 HI.out HZ0.out HZ1.out HZ2.out rfl (by omega) u6 n1 (pairL n1 f1 g1) rfl HO.out w.heap.size A2 n2 c2 (pairAt f2 g2) rfl (HP2.out.below HB.out) HL2.out (fun j _ => by unfold pairAt; split <;> rfl) (by unfold maxLen; omega) (by omega) hs ?_; intro v' w2 hown hgrow hat; have HO2 : Hid (w2.ownsRow w.heap.size 37 2 v' (n1 + n2) (pairL n1 f1 g1 ++ pairL n2 f2 g2)) := Lib.hid hown; have HB2 : Hid (Below w.heap.size w w2) := Lib.hid (HB.out.grown hgrow hs fun q hq => by obtain ⟨_, _, hg⟩ := own_form HO.out hq; exact hg); clear hown hgrow hat))
          go_roundw
          case rel => exact ⟨2, by omega, by first | rfl | go_num, by simpa using HO2, HB2⟩
          case measure => simp [intOf]
        · rw [if_neg (by omega), if_neg (by omega), if_neg (by omega), if_neg (by omega)] at HO
          go_wp2_with fail
          go_ret
          exact ⟨_, rfl, HO.out, HB.out⟩
end Go.Proofs.Ytojpjglkdmmfjaa
