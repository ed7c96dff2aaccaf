/- SameUses, and the example of chapter 28. -/
import Derived.Test.YtlmgfcgakdanaaaApP
import Derived.Test.YtlmgfcgakdanaaaRnD
import Derived.Deep.QuietTactic
import Derived.BigQuiet
namespace Go.Proofs.Ytlmgfcgakdanaaa
open Go.RowKit
set_option linter.unusedVariables false

theorem use_eq (a b c : Int) (w : World) : (Op.equalIn 10000 47 (.agg #[.int .i64 a, .int .i64 b, .int .i64 c]) (.agg #[.int .i64 a, .int .i64 b, .int .i64 c])).run Try.prog w = .ok true w := by
  have u3 := Try.underlying3
  have a3 := Try.isAgg3
  have z3 := Try.sizeOf3
  rw [show (10000 : Nat) = 9999 + 1 from rfl, Op.equalIn]
  simp only [Sem.run_bind, run_underlying Try.underlying47, Result.andThen_ok]
  go_simp

set_option maxHeartbeats 1000000 in
theorem sameuses_yes (A A' : Option Addr) (n c c' : Nat) (U : Nat → T3) (w : World) (B B' : Nat) (hn : n ≤ 9223372036854775807) (h1 : Trips w B A n U) (h2 : Trips w B' A' n U) :
    Calls Try.prog 23 #[.slice A n c, .slice A' n c'] w fun e w' => e = .returned (.bool true) ∧ ∃ k, w' = w.drewN k := by
  have H1 := Lib.hid h1
  have H2 := Lib.hid h2
  clear h1 h2
  have hnn : ((n : Int) != n) = false := by simp
  go_enter Try.func23, Try.ntmps23
  go_wp2_with fail
  go_loopw [5, 13] (fun _ i wr => ∃ k q : Nat, k ≤ n ∧ i = .int .i64 k ∧ wr = w.drewN q) (fun _ i _ => n - (intOf i).toNat)
  case atStart => exact ⟨0, 0, Nat.zero_le _, rfl, rfl⟩
  case round =>
    obtain ⟨k, q, hk, rfl, rfl⟩ := hrel
    clear hnn
    by_cases hlt : k < n
    · obtain ⟨b, o, rfl, hb, c0, c1, c2⟩ := H1.out.get hlt
      obtain ⟨b2, o2, rfl, hb2, e0, e1, e2⟩ := H2.out.get hlt
      have heq := use_eq (U k).a (U k).b (U k).c
      obtain ⟨⟨ua, ub, uc⟩, hu⟩ : ∃ u, U k = u := ⟨_, rfl⟩
      rw [hu] at c0 c1 c2 e0 e1 e2 heq
      simp only at c0 c1 c2 e0 e1 e2 heq
      have hk0 : (0 : Int) ≤ k := by omega
      have hk1 : (k : Int) < n := by omega
      clear hu
      go_wp2_with fail
      go_quiet (fail)
      go_wp2_with fail
      go_roundw
      case rel => exact ⟨k + 1, _, by omega, by go_num, rfl⟩
      case measure => simp [intOf]; omega
    · have hd : decide ((k : Int) < n) = false := by rw [decide_eq_false_iff_not]; omega
      go_wp2_with fail
      go_ret
      exact ⟨rfl, _, rfl⟩

/-- the treaty of the example; its reinstatements lie in block g -/
def Ty.cover (g : Nat) : Ty :=
  { id := 1, kind := 5, pf := 0, pt := 100, risk := 0, cess := 0, line := 0, lines := 0, ret := 0, lim := 100, win := 24, ded := 0, agg := 0, prem := 30, timed := false, base := 0,
    Ape := none, npe := 0, cpe := 0, fpe := fun _ => 0, Aar := none, nar := 0, car := 0, far := fun _ => 0, Are := some ⟨g, 0, none⟩, nre := 2, cre := 2, fre := fun i => if i = 0 then 1000000 else 500000,
    Ain := none, nin := 0, cin := 0, fin := fun _ => 0, Apa := none, npa := 0, cpa := 0, fpa := fun _ => 0, gpa := fun _ => 0 }
theorem cover_xerr (g : Nat) : (Ty.cover g).xerr = 0 := by
  refine firstErr_fine fun a ha => ?_
  simp only [List.mem_cons, List.not_mem_nil, or_false] at ha
  rcases ha with rfl | rfl
  · have e : (Ty.cover g).err = (Ty.cover 0).err := rfl
    rw [e]
    decide +kernel
  · rfl

set_option maxRecDepth 100000 in
theorem cover_built (g : Nat) : Try.prog.built 27 [(0, .int .i64 1), (1, .int .i64 5), (2, .agg #[.int .i64 0, .int .i64 100]), (10, .int .i64 100), (11, .int .i64 24), (14, .int .i64 30), (15, .slice (some ⟨g, 0, none⟩) 2 2)] = some (Ty.cover g).cells := by kernel_rfl

/-- what cover returns -/
def CoverPost (w : World) (e : Ending) (w' : World) : Prop := ∃ g, e = .returned (.agg (Ty.cover g).cells) ∧ (Ty.cover g).In w' w'.heap.size ∧ Below w.heap.size w w'

set_option maxRecDepth 100000 in
set_option maxHeartbeats 1000000 in
theorem cover_any (w : World) : Calls Try.prog 26 #[] w (CoverPost w) := by
  have HTI := Lib.hid ty_info
  have HBL := Lib.hid (cover_built (w.heap.size + 1))
  go_enter Try.func26, Try.ntmps26
  go_upto_region 1 with (fail)
  have HZ := Lib.hid ((Has.new w #[.int .i64 0, .int .i64 0, .int .i64 0, .int .i64 0, .slice none 0 0, .slice none 0 0, .int .i64 0, .int .i64 0, .int .i64 0, .int .i64 0, .int .i64 0, .int .i64 0, .int .i64 0, .int .i64 0, .int .i64 0, .int .i64 0, .slice none 0 0, .bool false, .int .i64 0, .slice none 0 0, .slice none 0 0] 27).alloc (.cells #[.int .i64 1000000, .int .i64 500000] 3))
  have HN := Lib.hid (Has.new' (w.alloc (.cells #[.int .i64 0, .int .i64 0, .int .i64 0, .int .i64 0, .slice none 0 0, .slice none 0 0, .int .i64 0, .int .i64 0, .int .i64 0, .int .i64 0, .int .i64 0, .int .i64 0, .int .i64 0, .int .i64 0, .int .i64 0, .int .i64 0, .slice none 0 0, .bool false, .int .i64 0, .slice none 0 0, .slice none 0 0] 27)) (w.heap.size + 1) #[.int .i64 1000000, .int .i64 500000] 3 (by simp))
  have HB := Lib.hid (((Below.refl w.heap.size w).alloc (Nat.le_refl _) (.cells #[.int .i64 0, .int .i64 0, .int .i64 0, .int .i64 0, .slice none 0 0, .slice none 0 0, .int .i64 0, .int .i64 0, .int .i64 0, .int .i64 0, .int .i64 0, .int .i64 0, .int .i64 0, .int .i64 0, .int .i64 0, .int .i64 0, .slice none 0 0, .bool false, .int .i64 0, .slice none 0 0, .slice none 0 0] 27)).alloc (by simp) (.cells #[.int .i64 1000000, .int .i64 500000] 3))
  go_wp2_with (first
    | (refine wpList_build_is ?_ 27 [(0, .const (.int .i64 1)), (1, .const (.int .i64 5)), (2, .tmp 1), (10, .const (.int .i64 100)), (11, .const (.int .i64 24)), (14, .const (.int .i64 30)), (15, .tmp 2)] ?_ [(0, .int .i64 1), (1, .int .i64 5), (2, .agg #[.int .i64 0, .int .i64 100]), (10, .int .i64 100), (11, .int .i64 24), (14, .int .i64 30), (15, .slice (some ⟨w.heap.size + 1, 0, none⟩) 2 2)] ?_ _ HBL.out ?_; rfl; rfl; rfl)
    | (refine wpList_store_has ?_ 27 (.tmp 0) (.tmp 3) ?_ w.heap.size ?_ (Ty.cover (w.heap.size + 1)).cells ?_ _ _ HZ.out HTI.out ?_ ?_ ?_; rfl; rfl; rfl; rfl; rfl; rfl; intro w9 hh9 hl9))
  refine bodyPost_ret (results_cell_row rfl _ _ w.heap.size _ _ _ _ ?_ hh9 Try.underlying27 rfl HTI.out) rfl ?_
  · rfl
  · have hn9 := HN.out.leaves hl9 (by omega)
    refine ⟨w.heap.size + 1, rfl, ⟨Nums.zero, Nums.zero, nums_of_has hn9 (fun j hj => ?_), Nums.zero, Pairs.zero, by show 0 ≤ _; omega, by show 0 ≤ _; omega, by show 2 ≤ _; omega, by show 0 ≤ _; omega, by show 0 ≤ _; omega⟩, HB.out.trans (hl9.below (fun k hk => by omega) (by simp; omega))⟩
    have hj2 : j = 0 ∨ j = 1 := by have : j < 2 := hj; omega
    rcases hj2 with rfl | rfl <;> rfl

/-- the example: hours, recoveries, uses -/
def exH (i : Nat) : Int := if i = 0 then 0 else if i = 1 then 1 else if i = 2 then 2 else 3
def exL (i : Nat) : Int := if i = 0 then 60 else if i = 1 then 60 else 100
def exU (i : Nat) : T3 := if i = 0 then ⟨60, 60, 18⟩ else if i = 1 then ⟨60, 60, 15⟩ else if i = 2 then ⟨100, 80, 12⟩ else ⟨80, 0, 0⟩
theorem Ty.aerr_zero {t : Ty} {nh n : Nat} {h l : Nat → Int} (hx : t.xerr = 0) (he : Rn.eerr nh h n l = 0) : t.aerr nh h n l = 0 := by
  unfold Ty.aerr
  rw [if_neg (fun q => q hx), he]
theorem ex_eerr : Rn.eerr 4 exH 4 exL = 0 := by decide +kernel
theorem cover_aerr (g : Nat) : (Ty.cover g).aerr 4 exH 4 exL = 0 := Ty.aerr_zero (cover_xerr g) ex_eerr
theorem cover_cap (g : Nat) : (Ty.cover g).cap = 300 := by
  unfold Ty.cap
  rw [if_pos (cover_xerr g)]
  show Rn.cap 2 100 = 300
  decide
theorem cover_uses (g : Nat) (i : Nat) (hi : i < 4) : (Ty.cover g).uses exH exL i = exU i := by
  have hm : (Ty.cover g).most = 300 := by
    unfold Ty.most
    rw [cover_cap g]
    show Rn.most 300 0 = 300
    decide
  unfold Ty.uses
  rw [hm]
  have h : i = 0 ∨ i = 1 ∨ i = 2 ∨ i = 3 := by omega
  have e : ∀ a b c, (Ty.cover g).use a b c = (Ty.cover 0).use a b c := fun a b c => rfl
  have e2 : (Ty.cover g).ded = 0 := rfl
  rw [e, e2]
  rcases h with rfl | rfl | rfl | rfl <;> decide +kernel

set_option maxRecDepth 100000 in
set_option maxHeartbeats 1000000 in
theorem awake28_any (w : World) : Calls Try.prog 10 #[] w (BoolPost true w) := by
  go_enter Try.func10, Try.ntmps10
  go_wp2_with fail
  refine (cover_any w).mono ?_
  rintro e w1 ⟨g, rfl, hin, hb⟩
  have HI := Lib.hid hin
  have HB := Lib.hid hb
  clear hin hb
  go_wp2_with fail
  have hH := (Has.new w1 #[.int .i64 0, .int .i64 1, .int .i64 2, .int .i64 3] 3).alloc (.cells #[.int .i64 60, .int .i64 60, .int .i64 100, .int .i64 100] 3)
  have hL := Has.new' (w1.alloc (.cells #[.int .i64 0, .int .i64 1, .int .i64 2, .int .i64 3] 3)) (w1.heap.size + 1) #[.int .i64 60, .int .i64 60, .int .i64 100, .int .i64 100] 3 (by simp)
  have hB := ((Below.refl w1.heap.size w1).alloc (Nat.le_refl _) (.cells #[.int .i64 0, .int .i64 1, .int .i64 2, .int .i64 3] 3)).alloc (by simp) (.cells #[.int .i64 60, .int .i64 60, .int .i64 100, .int .i64 100] 3)
  obtain ⟨w2, hw2⟩ : ∃ W, (w1.alloc (.cells #[.int .i64 0, .int .i64 1, .int .i64 2, .int .i64 3] 3)).alloc (.cells #[.int .i64 60, .int .i64 60, .int .i64 100, .int .i64 100] 3) = W := ⟨_, rfl⟩
  rw [hw2] at hH hL hB ⊢
  have CA := Lib.hid (reapply_any (Ty.cover g) (some ⟨w1.heap.size, 0, none⟩) 4 4 exH (some ⟨w1.heap.size + 1, 0, none⟩) 4 4 exL w2 ((HI.out.below hB).mono hB.size) (by omega) (by omega)
    (nums_of_has hH fun j hj => by rcases (show j = 0 ∨ j = 1 ∨ j = 2 ∨ j = 3 by omega) with rfl | rfl | rfl | rfl <;> rfl)
    (nums_of_has hL fun j hj => by rcases (show j = 0 ∨ j = 1 ∨ j = 2 ∨ j = 3 by omega) with rfl | rfl | rfl | rfl <;> rfl))
  replace HB : Hid (Below w.heap.size w w2) := Lib.hid (HB.out.trans (hB.mono HB.out.size))
  rw [cover_aerr] at CA
  clear hH hL hB hw2 HI
  refine (CA.out).mono ?_
  rintro e w3 (⟨h, _⟩ | ⟨_, g3, c3, rfl, hg3, htr, hb⟩)
  · exact absurd rfl h
  have HT : Hid (Trips w3 w3.heap.size (some ⟨g3, 0, none⟩) 4 exU) := Lib.hid (htr.congr fun j hj => cover_uses g j hj)
  replace HB : Hid (Below w.heap.size w w3) := Lib.hid (HB.out.trans (hb.mono HB.out.size))
  clear htr hb CA hg3
  go_wp2_with fail
  have hN := Has.new w3 #[.int .i64 60, .int .i64 60, .int .i64 18, .int .i64 60, .int .i64 60, .int .i64 15, .int .i64 100, .int .i64 80, .int .i64 12, .int .i64 80, .int .i64 0, .int .i64 0] 47
  have HTN : Hid (Trips (w3.alloc (.cells #[.int .i64 60, .int .i64 60, .int .i64 18, .int .i64 60, .int .i64 60, .int .i64 15, .int .i64 100, .int .i64 80, .int .i64 12, .int .i64 80, .int .i64 0, .int .i64 0] 47)) (w3.heap.size + 1) (some ⟨w3.heap.size, 0, none⟩) 4 exU) := Lib.hid fun _ => ⟨_, rfl, by simp, fun j hj => by
    rw [Go.WideShapes.add_plain, Nat.zero_add, hN.cell]
    rcases (show j = 0 ∨ j = 1 ∨ j = 2 ∨ j = 3 ∨ j = 4 ∨ j = 5 ∨ j = 6 ∨ j = 7 ∨ j = 8 ∨ j = 9 ∨ j = 10 ∨ j = 11 by omega) with rfl | rfl | rfl | rfl | rfl | rfl | rfl | rfl | rfl | rfl | rfl | rfl <;> rfl⟩
  replace HT := Lib.hid (Cells.alloc HT.out (Nat.le_refl _) (.cells #[.int .i64 60, .int .i64 60, .int .i64 18, .int .i64 60, .int .i64 60, .int .i64 15, .int .i64 100, .int .i64 80, .int .i64 12, .int .i64 80, .int .i64 0, .int .i64 0] 47))
  replace HB := Lib.hid (HB.out.alloc HB.out.size (.cells #[.int .i64 60, .int .i64 60, .int .i64 18, .int .i64 60, .int .i64 60, .int .i64 15, .int .i64 100, .int .i64 80, .int .i64 12, .int .i64 80, .int .i64 0, .int .i64 0] 47))
  clear hN
  refine (sameuses_yes _ _ 4 _ _ exU _ _ _ (by omega) HT.out HTN.out).mono ?_
  rintro e w4 ⟨rfl, q, rfl⟩
  replace HB := Lib.hid (below_drewN HB.out q)
  clear HT HTN
  go_wp2_with fail
  refine (cover_any _).mono ?_
  rintro e w5 ⟨g5, rfl, hin, hb⟩
  have HI := Lib.hid hin
  replace HB : Hid (Below w.heap.size w w5) := Lib.hid (HB.out.trans (hb.mono HB.out.size))
  have CC := Lib.hid (capacity_any (Ty.cover g5) w5 hin)
  rw [cover_cap] at CC
  clear hin hb HI
  go_wp2_with fail
  refine (CC.out).mono ?_
  rintro e w6 ⟨rfl, hb⟩
  replace HB : Hid (Below w.heap.size w w6) := Lib.hid (HB.out.trans (hb.mono HB.out.size))
  clear hb CC
  go_wp2_with fail
  go_ret
  exact ⟨rfl, HB.out⟩
end Go.Proofs.Ytlmgfcgakdanaaa
