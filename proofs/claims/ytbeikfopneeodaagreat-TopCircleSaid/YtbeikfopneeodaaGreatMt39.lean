/- office.New at the example. account.Balance at the four postings of the example (printed by wip/gen/tclc.py). -/
import Derived.Test.YtbeikfopneeodaaGreatMt14
import Derived.Test.YtbeikfopneeodaaGreatMt09
import Derived.Test.YtbeikfopneeodaaGreatMt29
namespace Go.Proofs.YtbeikfopneeodaaGreat
open Go.RowKit
set_option linter.unusedVariables false

/-- what New gives -/
def NewPost (w : World) (e : Ending) (w' : World) : Prop := ∃ g2 b2 c2 O, e = .returned (.tuple #[.agg (offC g2 1 (.slice (some ⟨O, 0, none⟩) 16 16)), .int .i64 0]) ∧ TrAt w' g2 b2 c2 ∧ Has w' O nil16 75 ∧ (w.heap.size ≤ g2 ∧ w.heap.size ≤ b2 ∧ w.heap.size ≤ O ∧ g2 ≠ O ∧ b2 ≠ O) ∧ b2 < w'.heap.size ∧ Below w.heap.size w w'

set_option maxRecDepth 100000 in
set_option maxHeartbeats 2000000 in
theorem new_aw (g b c c' : Nat) (w : World) (h : TrAt w g b c) : Calls Tryz.prog 19 #[.agg (awP g c')] w (NewPost w) := by
  have HT0 := Lib.hid h
  clear h
  unfold awP
  go_enter Tryz.func19, Tryz.ntmps19
  go_upto_region 1 with (fail)
  obtain ⟨v0, hv⟩ : ∃ W, (w.alloc (.cells #[.int .i64 0, .slice (some ⟨g, 0, none⟩) 1 c', .slice none 0 0, .slice none 0 0] 59)).alloc (.cells offZ 67) = W := ⟨_, rfl⟩
  have hb : Below w.heap.size w v0 := by rw [← hv]; exact (by (repeat' (first | (with_reducible exact Below.refl _ _) | (with_reducible refine Below.setCell ?_ ?_ _) | (with_reducible refine below_drewN ?_ _) | (with_reducible refine Below.drew ?_) | (with_reducible refine Below.alloc ?_ ?_ _))) <;> (first | omega | (simp <;> omega)))
  have HP : Hid (Has v0 w.heap.size (awP g c') 59) := Lib.hid (by rw [← hv]; exact (Has.new _ _ _).alloc _)
  have HR : Hid (Has v0 (w.heap.size + 1) offZ 67) := Lib.hid (by rw [← hv]; exact Has.new' _ _ _ _ (by simp))
  have HZ : Hid (v0.heap.size = w.heap.size + 2) := Lib.hid (by rw [← hv]; simp)
  have HB := Lib.hid hb
  unfold offZ at hv
  have HTV := Lib.hid (HT0.out.later hb)
  rw [hv]
  clear hb hv
  obtain ⟨P, hP⟩ : ∃ Q, w.heap.size = Q := ⟨_, rfl⟩
  obtain ⟨R, hR⟩ : ∃ Q, w.heap.size + 1 = Q := ⟨_, rfl⟩
  have HN0 : Hid (w.heap.size = P ∧ R = P + 1 ∧ P + 2 = v0.heap.size) := Lib.hid (by have := HZ.out; omega)
  rw [hR] at HR ⊢
  rw [hP] at HP ⊢
  clear hP hR HZ
  have p0 : v0.cell? ⟨P, 0, none⟩ = some (.int .i64 0) := HP.out.cell 0
  have p1 : v0.cell? ⟨P, 1, none⟩ = some (.slice (some ⟨g, 0, none⟩) 1 c') := HP.out.cell 1
  have p2 : v0.cell? ⟨P, 2, none⟩ = some (.slice none 0 0) := HP.out.cell 2
  have p3 : v0.cell? ⟨P, 3, none⟩ = some (.slice none 0 0) := HP.out.cell 3
  have CV : Hid (Calls Tryz.prog 25 #[.agg #[.int .i64 0, .slice (some ⟨g, 0, none⟩) 1 c', .slice none 0 0, .slice none 0 0]] v0 (IntPost 0 v0)) := Lib.hid (pvalid_aw g b c c' v0 HTV.out)
  go_wp2_with fail
  refine CV.out.mono ?_
  rintro e w1 ⟨rfl, hb⟩
  replace HB := Lib.hid (HB.out.trans (hb.mono HB.out.size))
  replace HP := Lib.hid (HP.out.below hb HP.out.lt)
  replace HR := Lib.hid (HR.out.below hb HR.out.lt)
  have HN : Hid (w.heap.size = P ∧ R = P + 1 ∧ P + 2 ≤ w1.heap.size) := Lib.hid (by have := HN0.out; have := hb.size; omega)
  clear hb CV HN0 p0 p1 p2 p3 HTV
  have p0 : w1.cell? ⟨P, 0, none⟩ = some (.int .i64 0) := HP.out.cell 0
  have p1 : w1.cell? ⟨P, 1, none⟩ = some (.slice (some ⟨g, 0, none⟩) 1 c') := HP.out.cell 1
  have p2 : w1.cell? ⟨P, 2, none⟩ = some (.slice none 0 0) := HP.out.cell 2
  have p3 : w1.cell? ⟨P, 3, none⟩ = some (.slice none 0 0) := HP.out.cell 3
  have CC : Hid (Calls Tryz.prog 26 #[.agg #[.int .i64 0, .slice (some ⟨g, 0, none⟩) 1 c', .slice none 0 0, .slice none 0 0, .slice none 0 0, .slice none 0 0, .int .i64 0, .slice none 0 0, .slice none 0 0]] w1 (CopPost w1)) := Lib.hid (copied_new g b c c' w1 (HT0.out.later HB.out))
  go_wp2_with fail
  refine CC.out.mono ?_
  rintro e w2 ⟨g2, b2, c2, O, rfl, hT, hO, hn, hbl, hb⟩
  have HT2 := Lib.hid hT
  have HO := Lib.hid hO
  have HN2 : Hid (w.heap.size = P ∧ R = P + 1 ∧ P + 2 ≤ g2 ∧ P + 2 ≤ b2 ∧ P + 2 ≤ O ∧ g2 ≠ O ∧ b2 ≠ O) := Lib.hid (by have := HN.out; omega)
  replace HB := Lib.hid (HB.out.trans (hb.mono HB.out.size))
  replace HR := Lib.hid (HR.out.below hb HR.out.lt)
  have HBL := Lib.hid hbl
  clear p0 p1 p2 p3 CC hT hO hn hb HN HP hbl
  have HOI := Lib.hid (off_info g2 1 (.slice (some ⟨O, 0, none⟩) 16 16))
  go_wp2_with (first
    | (refine wpList_store_has ?_ 67 (.tmp 2) (.tmp 13) ?_ R ?_ (offC g2 1 (.slice (some ⟨O, 0, none⟩) 16 16)) ?_ _ _ HR.out HOI.out ?_ ?_ ?_; rfl; rfl; rfl; rfl; rfl; rfl; intro w10 hh hl))
  replace HB := Lib.hid (HB.out.trans (hl.new_or (by have := HN2.out; omega) HB.out.size))
  replace HO := Lib.hid (HO.out.leaves hl (by have := HN2.out; show ¬ O = R; omega))
  replace HT2 := Lib.hid (HT2.out.leaves hl (by have := HN2.out; show ¬ g2 = R; omega) (by have := HN2.out; show ¬ b2 = R; omega))
  have hsz := hl.size
  refine bodyPost_ret (results_cell_tmp rfl _ _ R _ (offC g2 1 (.slice (some ⟨O, 0, none⟩) 16 16)) _ _ (.int .i64 0) ?_ ?_ hh Tryz.underlying67 rfl HOI.out) rfl ?_
  · rfl
  · rfl
  exact ⟨g2, b2, c2, O, rfl, HT2.out, HO.out, by have := HN2.out; omega, by have := HBL.out; omega, HB.out⟩
end Go.Proofs.YtbeikfopneeodaaGreat
namespace Go.Proofs.YtbeikfopneeodaaGreat
open Go.RowKit
set_option linter.unusedVariables false

set_option maxRecDepth 100000 in
theorem bclos_no (n k l a : Int) (x y : Nat) (w : World) (hx : w.cell? ⟨x, 0, none⟩ = some (.int .i64 1)) (hxl : x < w.heap.size) : Calls Tryz.prog 33 #[.agg #[.int .i64 n, .int .i64 0, .int .i64 k, .int .i64 0, .int .i64 0, .int .i64 l, .int .i64 a], .pointer (some ⟨x, 0, none⟩), .pointer (some ⟨y, 0, none⟩)] w fun e w' => e = .returned (.bool false) ∧ Below w.heap.size w w' := by
  go_enter Tryz.func33, Tryz.ntmps33
  go_wp2_with fail
  go_ret
  exact ⟨rfl, (Below.refl _ _).alloc (Nat.le_refl _) _⟩
set_option maxRecDepth 100000 in
theorem bclos_yes (n k l a : Int) (x y : Nat) (w : World) (hx : w.cell? ⟨x, 0, none⟩ = some (.int .i64 1)) (hxl : x < w.heap.size) (hy : w.cell? ⟨y, 0, none⟩ = some (.int .i64 2)) (hyl : y < w.heap.size) : Calls Tryz.prog 33 #[.agg #[.int .i64 n, .int .i64 0, .int .i64 k, .int .i64 1, .int .i64 2, .int .i64 l, .int .i64 a], .pointer (some ⟨x, 0, none⟩), .pointer (some ⟨y, 0, none⟩)] w fun e w' => e = .returned (.bool true) ∧ Below w.heap.size w w' := by
  go_enter Tryz.func33, Tryz.ntmps33
  go_wp2_with fail
  go_ret
  exact ⟨rfl, (Below.refl _ _).alloc (Nat.le_refl _) _⟩

set_option maxRecDepth 100000 in
theorem bal_info : (Tryz.prog.info? 79).map (·.size) = some 2 := by kernel_rfl

set_option maxRecDepth 100000 in
set_option maxHeartbeats 4000000 in
theorem sum_four (X cap x y : Nat) (w : World) (h : PoAt w X) (hx : w.cell? ⟨x, 0, none⟩ = some (.int .i64 1)) (hxl : x < w.heap.size) (hy : w.cell? ⟨y, 0, none⟩ = some (.int .i64 2)) (hyl : y < w.heap.size) :
    Calls Tryz.prog 32 #[.agg #[.int .i64 0, .slice (some ⟨X, 0, none⟩) 4 cap], .func (.func 33) #[] #[.pointer (some ⟨x, 0, none⟩), .pointer (some ⟨y, 0, none⟩)]] w fun e w' => e = .returned (.tuple #[.agg #[.int .i64 15, .int .i64 35], .int .i64 0]) ∧ Below w.heap.size w w' := by
  have HX := Lib.hid h
  have HXY := Lib.hid (And.intro hx (And.intro hxl (And.intro hy hyl)))
  clear h hx hxl hy hyl
  go_enter Tryz.func32, Tryz.ntmps32
  go_upto_region 2 with (fail)
  obtain ⟨v0, hv⟩ : ∃ W, ((w.alloc (.cells #[.int .i64 0, .slice (some ⟨X, 0, none⟩) 4 cap] 64)).alloc (.cells #[.int .i64 0, .int .i64 0] 79)).alloc (.cells #[.int .i64 0, .int .i64 0] 79) = W := ⟨_, rfl⟩
  have hb : Below w.heap.size w v0 := by rw [← hv]; exact (by (repeat' (first | (with_reducible exact Below.refl _ _) | (with_reducible refine Below.setCell ?_ ?_ _) | (with_reducible refine below_drewN ?_ _) | (with_reducible refine Below.drew ?_) | (with_reducible refine Below.alloc ?_ ?_ _))) <;> (first | omega | (simp <;> omega)))
  have HL : Hid (Has v0 w.heap.size #[.int .i64 0, .slice (some ⟨X, 0, none⟩) 4 cap] 64) := Lib.hid (by rw [← hv]; exact ((Has.new _ _ _).alloc _).alloc _)
  have HR : Hid (Has v0 (w.heap.size + 1) #[.int .i64 0, .int .i64 0] 79) := Lib.hid (by rw [← hv]; exact (Has.new' _ _ _ _ (by simp)).alloc _)
  have HD : Hid (Has v0 (w.heap.size + 1 + 1) #[.int .i64 0, .int .i64 0] 79) := Lib.hid (by rw [← hv]; exact Has.new' _ _ _ _ (by simp))
  rw [hv]
  have HB := Lib.hid hb
  have HX0 := Lib.hid HX.out
  replace HX := Lib.hid (HX.out.below hb)
  clear hv hb
  obtain ⟨Q, hQ⟩ : ∃ Q, w.heap.size = Q := ⟨_, rfl⟩
  obtain ⟨R, hR⟩ : ∃ Q, w.heap.size + 1 = Q := ⟨_, rfl⟩
  obtain ⟨D, hD⟩ : ∃ Q, w.heap.size + 1 + 1 = Q := ⟨_, rfl⟩
  have HN : Hid (w.heap.size = Q ∧ R = Q + 1 ∧ D = Q + 2 ∧ X < w.heap.size ∧ x < w.heap.size ∧ y < w.heap.size) := Lib.hid (by have := HX0.out.2; have := HXY.out.2.1; have := HXY.out.2.2.2; omega)
  rw [hD] at HD ⊢
  rw [hR] at HR ⊢
  rw [hQ] at HL ⊢
  clear hD hR hQ
  have q1 : v0.cell? ⟨Q, 1, none⟩ = some (.slice (some ⟨X, 0, none⟩) 4 cap) := HL.out.cell 1
  go_wp2_with fail
  clear q1 HL
  refine wp_loop_rounds 5 ?_
  rw [rounds_succ]
  have x0 : v0.cell? ⟨X, 0, none⟩ = some (.int .i64 1) := HX.out.1 0 (by omega)
  have x1 : v0.cell? ⟨X, 1, none⟩ = some (.int .i64 0) := HX.out.1 1 (by omega)
  have x2 : v0.cell? ⟨X, 2, none⟩ = some (.int .i64 1) := HX.out.1 2 (by omega)
  have x3 : v0.cell? ⟨X, 3, none⟩ = some (.int .i64 0) := HX.out.1 3 (by omega)
  have x4 : v0.cell? ⟨X, 4, none⟩ = some (.int .i64 0) := HX.out.1 4 (by omega)
  have x5 : v0.cell? ⟨X, 5, none⟩ = some (.int .i64 7) := HX.out.1 5 (by omega)
  have x6 : v0.cell? ⟨X, 6, none⟩ = some (.int .i64 15) := HX.out.1 6 (by omega)
  have xl := HX.out.2
  have hba : Below v0.heap.size v0 (v0.alloc (.cells #[.int .i64 1, .int .i64 0, .int .i64 1, .int .i64 0, .int .i64 0, .int .i64 7, .int .i64 15] 101)) := (Below.refl _ _).alloc (Nat.le_refl _) _
  have hbx := HB.out.trans (hba.mono HB.out.size)
  have C1 := Lib.hid (bclos_no 1 1 7 15 x y (v0.alloc (.cells #[.int .i64 1, .int .i64 0, .int .i64 1, .int .i64 0, .int .i64 0, .int .i64 7, .int .i64 15] 101)) ((hbx.cell (p := ⟨x, 0, none⟩) HXY.out.2.1).trans HXY.out.1) (Nat.lt_of_lt_of_le HXY.out.2.1 hbx.size))
  clear hba hbx
  go_wp2_with fail
  refine C1.out.mono ?_
  rintro e u0 ⟨rfl, hb⟩
  have hb1 : Below v0.heap.size v0 u0 := ((Below.refl _ _).alloc (Nat.le_refl _) _).trans (hb.mono (by simp))
  have hg : Has u0 v0.heap.size #[.int .i64 1, .int .i64 0, .int .i64 1, .int .i64 0, .int .i64 0, .int .i64 7, .int .i64 15] 101 := (Has.new v0 _ _).below hb (by simp)
  replace HB := Lib.hid (HB.out.trans (hb1.mono HB.out.size))
  replace HX := Lib.hid (HX.out.below hb1)
  replace HR := Lib.hid (HR.out.below hb1 HR.out.lt)
  replace HD := Lib.hid (HD.out.below hb1 HD.out.lt)
  clear hb hb1 x0 x1 x2 x3 x4 x5 x6 xl C1
  obtain ⟨G0, hG⟩ : ∃ Q, v0.heap.size = Q := ⟨_, rfl⟩
  rw [hG] at hg ⊢
  clear hG
  have g2 : u0.cell? ⟨G0, 2, none⟩ = some (.int .i64 1) := hg.cell 2
  have g6 : u0.cell? ⟨G0, 6, none⟩ = some (.int .i64 15) := hg.cell 6
  have d0 : u0.cell? ⟨D, 0, none⟩ = some (.int .i64 0) := HD.out.cell 0
  have d1 : u0.cell? ⟨D, 1, none⟩ = some (.int .i64 0) := HD.out.cell 1
  have df : ∀ j, u0.frozen? ⟨D, j, none⟩ = false := HD.out.free
  have df0 := df 0
  have df1 := df 1
  clear hg df
  go_wp2_with fail
  obtain ⟨v1, hv⟩ : ∃ W, u0 = W := ⟨_, rfl⟩
  rw [hv] at HB HX HR HD ⊢
  clear hv g2 g6 d0 d1 df0 df1
  rw [rounds_succ]
  have x0 : v1.cell? ⟨X, 7, none⟩ = some (.int .i64 2) := HX.out.1 7 (by omega)
  have x1 : v1.cell? ⟨X, 8, none⟩ = some (.int .i64 0) := HX.out.1 8 (by omega)
  have x2 : v1.cell? ⟨X, 9, none⟩ = some (.int .i64 1) := HX.out.1 9 (by omega)
  have x3 : v1.cell? ⟨X, 10, none⟩ = some (.int .i64 1) := HX.out.1 10 (by omega)
  have x4 : v1.cell? ⟨X, 11, none⟩ = some (.int .i64 2) := HX.out.1 11 (by omega)
  have x5 : v1.cell? ⟨X, 12, none⟩ = some (.int .i64 7) := HX.out.1 12 (by omega)
  have x6 : v1.cell? ⟨X, 13, none⟩ = some (.int .i64 15) := HX.out.1 13 (by omega)
  have xl := HX.out.2
  have hba : Below v1.heap.size v1 (v1.alloc (.cells #[.int .i64 2, .int .i64 0, .int .i64 1, .int .i64 1, .int .i64 2, .int .i64 7, .int .i64 15] 101)) := (Below.refl _ _).alloc (Nat.le_refl _) _
  have hbx := HB.out.trans (hba.mono HB.out.size)
  have C1 := Lib.hid (bclos_yes 2 1 7 15 x y (v1.alloc (.cells #[.int .i64 2, .int .i64 0, .int .i64 1, .int .i64 1, .int .i64 2, .int .i64 7, .int .i64 15] 101)) ((hbx.cell (p := ⟨x, 0, none⟩) HXY.out.2.1).trans HXY.out.1) (Nat.lt_of_lt_of_le HXY.out.2.1 hbx.size) ((hbx.cell (p := ⟨y, 0, none⟩) HXY.out.2.2.2).trans HXY.out.2.2.1) (Nat.lt_of_lt_of_le HXY.out.2.2.2 hbx.size))
  clear hba hbx
  go_wp2_with fail
  refine C1.out.mono ?_
  rintro e u1 ⟨rfl, hb⟩
  have hb1 : Below v1.heap.size v1 u1 := ((Below.refl _ _).alloc (Nat.le_refl _) _).trans (hb.mono (by simp))
  have hg : Has u1 v1.heap.size #[.int .i64 2, .int .i64 0, .int .i64 1, .int .i64 1, .int .i64 2, .int .i64 7, .int .i64 15] 101 := (Has.new v1 _ _).below hb (by simp)
  replace HB := Lib.hid (HB.out.trans (hb1.mono HB.out.size))
  replace HX := Lib.hid (HX.out.below hb1)
  replace HR := Lib.hid (HR.out.below hb1 HR.out.lt)
  replace HD := Lib.hid (HD.out.below hb1 HD.out.lt)
  clear hb hb1 x0 x1 x2 x3 x4 x5 x6 xl C1
  obtain ⟨G1, hG⟩ : ∃ Q, v1.heap.size = Q := ⟨_, rfl⟩
  rw [hG] at hg ⊢
  clear hG
  have g2 : u1.cell? ⟨G1, 2, none⟩ = some (.int .i64 1) := hg.cell 2
  have g6 : u1.cell? ⟨G1, 6, none⟩ = some (.int .i64 15) := hg.cell 6
  have d0 : u1.cell? ⟨D, 0, none⟩ = some (.int .i64 0) := HD.out.cell 0
  have d1 : u1.cell? ⟨D, 1, none⟩ = some (.int .i64 0) := HD.out.cell 1
  have df : ∀ j, u1.frozen? ⟨D, j, none⟩ = false := HD.out.free
  have df0 := df 0
  have df1 := df 1
  clear hg df
  go_wp2_with fail
  obtain ⟨v2, hv⟩ : ∃ W, u1.setCell ⟨D, 0, none⟩ (.int .i64 15) = W := ⟨_, rfl⟩
  replace HB : Hid (Below w.heap.size w (u1.setCell ⟨D, 0, none⟩ (.int .i64 15))) := Lib.hid (HB.out.setCell (p := ⟨D, 0, none⟩) (by have := HN.out; show w.heap.size ≤ D; omega) _)
  replace HX : Hid (PoAt (u1.setCell ⟨D, 0, none⟩ (.int .i64 15)) X) := Lib.hid ⟨fun j hj => (cell_far (by have := HN.out; show X ≠ D; omega)).trans (HX.out.1 j hj), by simpa using HX.out.2⟩
  replace HR := Lib.hid (HR.out.far (p := ⟨D, 0, none⟩) (by have := HN.out; show R ≠ D; omega) (.int .i64 15))
  replace HD : Hid (Has (u1.setCell ⟨D, 0, none⟩ (.int .i64 15)) D #[.int .i64 15, .int .i64 0] 79) := Lib.hid (HD.out.put 0 _)
  rw [hv] at HB HX HR HD ⊢
  clear hv g2 g6 d0 d1 df0 df1
  rw [rounds_succ]
  have x0 : v2.cell? ⟨X, 14, none⟩ = some (.int .i64 3) := HX.out.1 14 (by omega)
  have x1 : v2.cell? ⟨X, 15, none⟩ = some (.int .i64 0) := HX.out.1 15 (by omega)
  have x2 : v2.cell? ⟨X, 16, none⟩ = some (.int .i64 2) := HX.out.1 16 (by omega)
  have x3 : v2.cell? ⟨X, 17, none⟩ = some (.int .i64 0) := HX.out.1 17 (by omega)
  have x4 : v2.cell? ⟨X, 18, none⟩ = some (.int .i64 0) := HX.out.1 18 (by omega)
  have x5 : v2.cell? ⟨X, 19, none⟩ = some (.int .i64 7) := HX.out.1 19 (by omega)
  have x6 : v2.cell? ⟨X, 20, none⟩ = some (.int .i64 35) := HX.out.1 20 (by omega)
  have xl := HX.out.2
  have hba : Below v2.heap.size v2 (v2.alloc (.cells #[.int .i64 3, .int .i64 0, .int .i64 2, .int .i64 0, .int .i64 0, .int .i64 7, .int .i64 35] 101)) := (Below.refl _ _).alloc (Nat.le_refl _) _
  have hbx := HB.out.trans (hba.mono HB.out.size)
  have C1 := Lib.hid (bclos_no 3 2 7 35 x y (v2.alloc (.cells #[.int .i64 3, .int .i64 0, .int .i64 2, .int .i64 0, .int .i64 0, .int .i64 7, .int .i64 35] 101)) ((hbx.cell (p := ⟨x, 0, none⟩) HXY.out.2.1).trans HXY.out.1) (Nat.lt_of_lt_of_le HXY.out.2.1 hbx.size))
  clear hba hbx
  go_wp2_with fail
  refine C1.out.mono ?_
  rintro e u2 ⟨rfl, hb⟩
  have hb1 : Below v2.heap.size v2 u2 := ((Below.refl _ _).alloc (Nat.le_refl _) _).trans (hb.mono (by simp))
  have hg : Has u2 v2.heap.size #[.int .i64 3, .int .i64 0, .int .i64 2, .int .i64 0, .int .i64 0, .int .i64 7, .int .i64 35] 101 := (Has.new v2 _ _).below hb (by simp)
  replace HB := Lib.hid (HB.out.trans (hb1.mono HB.out.size))
  replace HX := Lib.hid (HX.out.below hb1)
  replace HR := Lib.hid (HR.out.below hb1 HR.out.lt)
  replace HD := Lib.hid (HD.out.below hb1 HD.out.lt)
  clear hb hb1 x0 x1 x2 x3 x4 x5 x6 xl C1
  obtain ⟨G2, hG⟩ : ∃ Q, v2.heap.size = Q := ⟨_, rfl⟩
  rw [hG] at hg ⊢
  clear hG
  have g2 : u2.cell? ⟨G2, 2, none⟩ = some (.int .i64 2) := hg.cell 2
  have g6 : u2.cell? ⟨G2, 6, none⟩ = some (.int .i64 35) := hg.cell 6
  have d0 : u2.cell? ⟨D, 0, none⟩ = some (.int .i64 15) := HD.out.cell 0
  have d1 : u2.cell? ⟨D, 1, none⟩ = some (.int .i64 0) := HD.out.cell 1
  have df : ∀ j, u2.frozen? ⟨D, j, none⟩ = false := HD.out.free
  have df0 := df 0
  have df1 := df 1
  clear hg df
  go_wp2_with fail
  obtain ⟨v3, hv⟩ : ∃ W, u2 = W := ⟨_, rfl⟩
  rw [hv] at HB HX HR HD ⊢
  clear hv g2 g6 d0 d1 df0 df1
  rw [rounds_succ]
  have x0 : v3.cell? ⟨X, 21, none⟩ = some (.int .i64 4) := HX.out.1 21 (by omega)
  have x1 : v3.cell? ⟨X, 22, none⟩ = some (.int .i64 0) := HX.out.1 22 (by omega)
  have x2 : v3.cell? ⟨X, 23, none⟩ = some (.int .i64 2) := HX.out.1 23 (by omega)
  have x3 : v3.cell? ⟨X, 24, none⟩ = some (.int .i64 1) := HX.out.1 24 (by omega)
  have x4 : v3.cell? ⟨X, 25, none⟩ = some (.int .i64 2) := HX.out.1 25 (by omega)
  have x5 : v3.cell? ⟨X, 26, none⟩ = some (.int .i64 7) := HX.out.1 26 (by omega)
  have x6 : v3.cell? ⟨X, 27, none⟩ = some (.int .i64 35) := HX.out.1 27 (by omega)
  have xl := HX.out.2
  have hba : Below v3.heap.size v3 (v3.alloc (.cells #[.int .i64 4, .int .i64 0, .int .i64 2, .int .i64 1, .int .i64 2, .int .i64 7, .int .i64 35] 101)) := (Below.refl _ _).alloc (Nat.le_refl _) _
  have hbx := HB.out.trans (hba.mono HB.out.size)
  have C1 := Lib.hid (bclos_yes 4 2 7 35 x y (v3.alloc (.cells #[.int .i64 4, .int .i64 0, .int .i64 2, .int .i64 1, .int .i64 2, .int .i64 7, .int .i64 35] 101)) ((hbx.cell (p := ⟨x, 0, none⟩) HXY.out.2.1).trans HXY.out.1) (Nat.lt_of_lt_of_le HXY.out.2.1 hbx.size) ((hbx.cell (p := ⟨y, 0, none⟩) HXY.out.2.2.2).trans HXY.out.2.2.1) (Nat.lt_of_lt_of_le HXY.out.2.2.2 hbx.size))
  clear hba hbx
  go_wp2_with fail
  refine C1.out.mono ?_
  rintro e u3 ⟨rfl, hb⟩
  have hb1 : Below v3.heap.size v3 u3 := ((Below.refl _ _).alloc (Nat.le_refl _) _).trans (hb.mono (by simp))
  have hg : Has u3 v3.heap.size #[.int .i64 4, .int .i64 0, .int .i64 2, .int .i64 1, .int .i64 2, .int .i64 7, .int .i64 35] 101 := (Has.new v3 _ _).below hb (by simp)
  replace HB := Lib.hid (HB.out.trans (hb1.mono HB.out.size))
  replace HX := Lib.hid (HX.out.below hb1)
  replace HR := Lib.hid (HR.out.below hb1 HR.out.lt)
  replace HD := Lib.hid (HD.out.below hb1 HD.out.lt)
  clear hb hb1 x0 x1 x2 x3 x4 x5 x6 xl C1
  obtain ⟨G3, hG⟩ : ∃ Q, v3.heap.size = Q := ⟨_, rfl⟩
  rw [hG] at hg ⊢
  clear hG
  have g2 : u3.cell? ⟨G3, 2, none⟩ = some (.int .i64 2) := hg.cell 2
  have g6 : u3.cell? ⟨G3, 6, none⟩ = some (.int .i64 35) := hg.cell 6
  have d0 : u3.cell? ⟨D, 0, none⟩ = some (.int .i64 15) := HD.out.cell 0
  have d1 : u3.cell? ⟨D, 1, none⟩ = some (.int .i64 0) := HD.out.cell 1
  have df : ∀ j, u3.frozen? ⟨D, j, none⟩ = false := HD.out.free
  have df0 := df 0
  have df1 := df 1
  clear hg df
  go_wp2_with fail
  obtain ⟨v4, hv⟩ : ∃ W, u3.setCell ⟨D, 1, none⟩ (.int .i64 35) = W := ⟨_, rfl⟩
  replace HB : Hid (Below w.heap.size w (u3.setCell ⟨D, 1, none⟩ (.int .i64 35))) := Lib.hid (HB.out.setCell (p := ⟨D, 1, none⟩) (by have := HN.out; show w.heap.size ≤ D; omega) _)
  replace HX : Hid (PoAt (u3.setCell ⟨D, 1, none⟩ (.int .i64 35)) X) := Lib.hid ⟨fun j hj => (cell_far (by have := HN.out; show X ≠ D; omega)).trans (HX.out.1 j hj), by simpa using HX.out.2⟩
  replace HR := Lib.hid (HR.out.far (p := ⟨D, 1, none⟩) (by have := HN.out; show R ≠ D; omega) (.int .i64 35))
  replace HD : Hid (Has (u3.setCell ⟨D, 1, none⟩ (.int .i64 35)) D #[.int .i64 15, .int .i64 35] 79) := Lib.hid (HD.out.put 1 _)
  rw [hv] at HB HX HR HD ⊢
  clear hv g2 g6 d0 d1 df0 df1
  rw [rounds_succ]
  have d0 : v4.cell? ⟨D, 0, none⟩ = some (.int .i64 15) := HD.out.cell 0
  have d1 : v4.cell? ⟨D, 1, none⟩ = some (.int .i64 35) := HD.out.cell 1
  have r0 : v4.cell? ⟨R, 0, none⟩ = some (.int .i64 0) := HR.out.cell 0
  have r1 : v4.cell? ⟨R, 1, none⟩ = some (.int .i64 0) := HR.out.cell 1
  have rf0 : v4.frozen? ⟨R, 0, none⟩ = false := HR.out.free _
  have rf1 : v4.frozen? ⟨R, 1, none⟩ = false := HR.out.free _
  have hv1 : Am.validB 15 = true := by decide
  have hv2 : Am.validB 35 = true := by decide
  go_wp2_with fail
  refine (valid_any _ _).mono ?_
  rintro e w1 ⟨rfl, rfl⟩
  rw [hv1]
  go_wp2_with fail
  refine (valid_any _ _).mono ?_
  rintro e w1 ⟨rfl, rfl⟩
  rw [hv2]
  go_wp2_with fail
  refine bodyPost_ret (results_cell_tmp rfl _ _ R _ #[.int .i64 15, .int .i64 35] _ _ (.int .i64 0) ?_ ?_ ((HR.out.put 0 _).put 1 _) Tryz.underlying79 rfl bal_info) rfl ?_
  · rfl
  · rfl
  · exact ⟨rfl, (HB.out.setCell (p := ⟨R, 0, none⟩) (by have := HN.out; show w.heap.size ≤ R; omega) _).setCell (p := ⟨R, 1, none⟩) (by have := HN.out; show w.heap.size ≤ R; omega) _⟩

set_option maxRecDepth 100000 in
set_option maxHeartbeats 1000000 in
theorem balance_four (X cap : Nat) (w : World) (h : PoAt w X) : Calls Tryz.prog 21 #[.agg #[.int .i64 0, .slice (some ⟨X, 0, none⟩) 4 cap], .int .i64 1, .int .i64 2] w fun e w' => e = .returned (.tuple #[.agg #[.int .i64 15, .int .i64 35], .int .i64 0]) ∧ Below w.heap.size w w' := by
  have HX := Lib.hid h
  clear h
  go_enter Tryz.func21, Tryz.ntmps21
  go_wp2_with fail
  obtain ⟨v0, hv⟩ : ∃ W, (((w.alloc (.cells #[.int .i64 0, .slice (some ⟨X, 0, none⟩) 4 cap] 64)).alloc (.cells #[.int .i64 1] 3)).alloc (.cells #[.int .i64 2] 3)).alloc (.cells #[.int .i64 0, .int .i64 0] 79) = W := ⟨_, rfl⟩
  have hb : Below w.heap.size w v0 := by rw [← hv]; exact (by (repeat' (first | (with_reducible exact Below.refl _ _) | (with_reducible refine Below.setCell ?_ ?_ _) | (with_reducible refine below_drewN ?_ _) | (with_reducible refine Below.drew ?_) | (with_reducible refine Below.alloc ?_ ?_ _))) <;> (first | omega | (simp <;> omega)))
  have HL : Hid (Has v0 w.heap.size #[.int .i64 0, .slice (some ⟨X, 0, none⟩) 4 cap] 64) := Lib.hid (by rw [← hv]; exact (((Has.new _ _ _).alloc _).alloc _).alloc _)
  have HT : Hid (Has v0 (w.heap.size + 1) #[.int .i64 1] 3) := Lib.hid (by rw [← hv]; exact ((Has.new' _ _ _ _ (by simp)).alloc _).alloc _)
  have HP : Hid (Has v0 (w.heap.size + 1 + 1) #[.int .i64 2] 3) := Lib.hid (by rw [← hv]; exact (Has.new' _ _ _ _ (by simp)).alloc _)
  have HR : Hid (Has v0 (w.heap.size + 1 + 1 + 1) #[.int .i64 0, .int .i64 0] 79) := Lib.hid (by rw [← hv]; exact Has.new' _ _ _ _ (by simp))
  rw [hv]
  have HB := Lib.hid hb
  replace HX := Lib.hid (HX.out.below hb)
  clear hv hb
  obtain ⟨Q, hQ⟩ : ∃ Q, w.heap.size = Q := ⟨_, rfl⟩
  obtain ⟨T, hT⟩ : ∃ Q, w.heap.size + 1 = Q := ⟨_, rfl⟩
  obtain ⟨P, hP⟩ : ∃ Q, w.heap.size + 1 + 1 = Q := ⟨_, rfl⟩
  obtain ⟨R, hR⟩ : ∃ Q, w.heap.size + 1 + 1 + 1 = Q := ⟨_, rfl⟩
  have hRb : w.heap.size ≤ R := by omega
  rw [hR] at HR ⊢
  rw [hP] at HP ⊢
  rw [hT] at HT ⊢
  rw [hQ] at HL ⊢
  clear hR hP hT hQ
  refine (lval_four X cap v0 HX.out).mono ?_
  rintro e v1 ⟨rfl, hb⟩
  replace HB := Lib.hid (HB.out.trans (hb.mono HB.out.size))
  replace HX := Lib.hid (HX.out.below hb)
  replace HL := Lib.hid (HL.out.below hb HL.out.lt)
  replace HT := Lib.hid (HT.out.below hb HT.out.lt)
  replace HP := Lib.hid (HP.out.below hb HP.out.lt)
  replace HR := Lib.hid (HR.out.below hb HR.out.lt)
  clear hb
  have q0 : v1.cell? ⟨Q, 0, none⟩ = some (.int .i64 0) := HL.out.cell 0
  have q1 : v1.cell? ⟨Q, 1, none⟩ = some (.slice (some ⟨X, 0, none⟩) 4 cap) := HL.out.cell 1
  go_wp2_with fail
  refine (sum_four X cap T P v1 HX.out (HT.out.cell 0) HT.out.lt (HP.out.cell 0) HP.out.lt).mono ?_
  rintro e v2 ⟨rfl, hb⟩
  replace HB := Lib.hid (HB.out.trans (hb.mono HB.out.size))
  replace HR := Lib.hid (HR.out.below hb HR.out.lt)
  clear hb q0 q1
  have r0 : v2.cell? ⟨R, 0, none⟩ = some (.int .i64 0) := HR.out.cell 0
  have r1 : v2.cell? ⟨R, 1, none⟩ = some (.int .i64 0) := HR.out.cell 1
  have rf0 : v2.frozen? ⟨R, 0, none⟩ = false := HR.out.free _
  have rf1 : v2.frozen? ⟨R, 1, none⟩ = false := HR.out.free _
  go_wp2_with fail
  refine bodyPost_ret (results_cell_tmp rfl _ _ R _ #[.int .i64 15, .int .i64 35] _ _ (.int .i64 0) ?_ ?_ ((HR.out.put 0 _).put 1 _) Tryz.underlying79 rfl bal_info) rfl ?_
  · rfl
  · rfl
  · exact ⟨rfl, (HB.out.setCell (p := ⟨R, 0, none⟩) hRb _).setCell (p := ⟨R, 1, none⟩) hRb _⟩
end Go.Proofs.YtbeikfopneeodaaGreat
