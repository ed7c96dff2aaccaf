/- treatytop.awake. Package retro in plain words. No program in sight. The plain arithmetic of the reference's division, binary digit by binary digit. The contracts of the reference's package for layer 1: Valid, Clamp, Divide, up, MulDiv, Share. -/
import Derived.Test.YtbeikfopneeodaaGreatMt38
import Derived.Test.YtbeikfopneeodaaGreatMt39
import Derived.Test.YtbeikfopneeodaaGreatMt03
import Derived.WalkKit
import Derived.Laws.Bits128
import Derived.Test.YtbeikfopneeodaaGreatProg
import Derived.Outline
import Derived.Deep.QuietTactic
import Derived.BigQuiet
import Derived.LoopTactic
import Derived.Lib.Hide
namespace Go.Proofs.YtbeikfopneeodaaGreat
open Go.RowKit
set_option linter.unusedVariables false

theorem part_has {w : World} {b : Nat} (h : Has w b #[.int .i64 2, .int .i64 1000000] 51) : PartAt w w.heap.size b := fun _ => ⟨_, rfl, h.lt, fun j hj => by
  rw [Go.WideShapes.add_plain, Nat.zero_add, h.cell]
  have hj : j < 2 := hj
  match j, hj with
  | 0, _ => rfl
  | 1, _ => rfl
  | n + 2, h => exact absurd h (by omega)⟩

set_option maxRecDepth 100000 in
set_option maxHeartbeats 4000000 in
theorem awaket_any (w : World) : Calls Tryz.prog 7 #[] w fun e w' => e = .returned (.bool true) ∧ Below w.heap.size w w' := by
  go_enter Tryz.func7, Tryz.ntmps7
  go_upto_region 2 with (fail)
  obtain ⟨v0, hv⟩ : ∃ W, ((w.alloc (.cells #[.int .i64 2, .int .i64 1000000] 51)).alloc (.cells (awC w.heap.size 1) 54)).alloc (.cells (awP (w.heap.size + 1) 1) 59) = W := ⟨_, rfl⟩
  have hb : Below w.heap.size w v0 := by rw [← hv]; exact (by (repeat' (first | (with_reducible exact Below.refl _ _) | (with_reducible refine Below.setCell ?_ ?_ _) | (with_reducible refine below_drewN ?_ _) | (with_reducible refine Below.drew ?_) | (with_reducible refine Below.alloc ?_ ?_ _))) <;> (first | omega | (simp <;> omega)))
  have h1 : Has v0 w.heap.size #[.int .i64 2, .int .i64 1000000] 51 := by rw [← hv]; exact ((Has.new _ _ _).alloc _).alloc _
  have h2 : Has v0 (w.heap.size + 1) (awC w.heap.size 1) 54 := by rw [← hv]; exact (Has.new' _ _ _ _ (by simp)).alloc _
  have h3 : Has v0 (w.heap.size + 1 + 1) (awP (w.heap.size + 1) 1) 59 := by rw [← hv]; exact Has.new' _ _ _ _ (by simp)
  have HT : Hid (TrAt v0 (w.heap.size + 1) w.heap.size 1) := Lib.hid ⟨h2, part_has h1⟩
  have HP := Lib.hid h3
  have HB := Lib.hid hb
  unfold awC awP at hv
  rw [hv]
  clear hv hb h1 h2 h3
  obtain ⟨b, hbe⟩ : ∃ Q, w.heap.size = Q := ⟨_, rfl⟩
  obtain ⟨g, hge⟩ : ∃ Q, w.heap.size + 1 = Q := ⟨_, rfl⟩
  obtain ⟨P, hPe⟩ : ∃ Q, w.heap.size + 1 + 1 = Q := ⟨_, rfl⟩
  have HN : Hid (w.heap.size = b ∧ g = b + 1 ∧ P = b + 2) := Lib.hid (by omega)
  rw [hPe] at HP ⊢
  rw [hge] at HP HT ⊢
  rw [hbe] at HT ⊢
  clear hbe hge hPe
  have HPI := Lib.hid (prog_info g 1)
  have CN := Lib.hid (new_aw g b 1 1 v0 HT.out)
  go_wp2_with (refine wpList_load_has ?_ 59 (.tmp 1) ?_ P ?_ _ (awP g 1) _ HP.out Tryz.underlying59 ?_ HPI.out ?_; rfl; rfl; rfl; rfl)
  refine CN.out.mono ?_
  rintro e w1 ⟨g2, b2, c2, O, rfl, hT, hO, hn, hbl, hb⟩
  have HT2 := Lib.hid hT
  have HO := Lib.hid hO
  replace HB := Lib.hid (HB.out.trans (hb.mono HB.out.size))
  clear CN hT hO hn hbl hb HT HP
  have HOI := Lib.hid (off_info g2 1 (.slice (some ⟨O, 0, none⟩) 16 16))
  go_upto_region 3 with (refine wpList_store_has ?_ 67 (.tmp 2) (.tmp 16) ?_ w1.heap.size ?_ (offC g2 1 (.slice (some ⟨O, 0, none⟩) 16 16)) ?_ _ _ (Has.new' w1 w1.heap.size offZ _ rfl) HOI.out ?_ ?_ ?_; rfl; rfl; rfl; rfl; rfl; rfl; intro w2 hh hl)
  have HQN : Hid (w.heap.size ≤ w1.heap.size) := Lib.hid HB.out.size
  have hb2 : Below w1.heap.size w1 w2 := ((Below.refl _ _).alloc (Nat.le_refl _) _).trans (hl.below (fun k (hk : k = w1.heap.size) => by omega) (by simp))
  have HQ := Lib.hid hh
  replace HB := Lib.hid (HB.out.trans (hb2.mono HB.out.size))
  replace HT2 := Lib.hid (HT2.out.later hb2)
  replace HO := Lib.hid (HO.out.below hb2 HO.out.lt)
  clear hb2 hh hl
  obtain ⟨Q, hQ⟩ : ∃ Q, w1.heap.size = Q := ⟨_, rfl⟩
  rw [hQ] at HQ HQN ⊢
  clear hQ
  have hb3 : Below w2.heap.size w2 (w2.alloc (.cells lossC 72)) := (Below.refl _ _).alloc (Nat.le_refl _) _
  have CD : Hid (Calls Tryz.prog 20 #[.agg (offC g2 1 (.slice (some ⟨O, 0, none⟩) 16 16)), .agg #[.int .i64 1, .slice (some ⟨w2.heap.size, 0, none⟩) 1 1, .int .i64 0, .int .i64 0, .int .i64 0, .int .i64 0]] (w2.alloc (.cells lossC 72)) (DoPost (w2.alloc (.cells lossC 72)))) := Lib.hid (do_aw g2 b2 c2 1 w2.heap.size 1 O _ (HT2.out.later hb3) (HO.out.below hb3 HO.out.lt) (LossAt.of_has (Has.new _ _ _)))
  have HB3 : Hid (Below w.heap.size w (w2.alloc (.cells lossC 72))) := Lib.hid (HB.out.trans (hb3.mono HB.out.size))
  have HQ3 : Hid (Has (w2.alloc (.cells lossC 72)) Q (offC g2 1 (.slice (some ⟨O, 0, none⟩) 16 16)) 67) := Lib.hid (HQ.out.below hb3 HQ.out.lt)
  clear hb3 HB HT2 HO
  go_wp2_with (refine wpList_load_has ?_ 67 (.tmp 2) ?_ Q ?_ _ (offC g2 1 (.slice (some ⟨O, 0, none⟩) 16 16)) _ HQ.out Tryz.underlying67 ?_ HOI.out ?_; rfl; rfl; rfl; rfl)
  refine CD.out.mono ?_
  rintro e w3 ⟨g3, l3, cl3, p, cp, O3, B, cb, C, cc, rfl, hp, hO3, hc3, hBl, hlo, hb⟩
  have HB := Lib.hid (HB3.out.trans (hb.mono HB3.out.size))
  replace HQ := Lib.hid (HQ3.out.below hb HQ3.out.lt)
  have HF : Hid (PoAt w3 p ∧ Has w3 O3 (out2 (.slice (some ⟨B, 0, none⟩) 1 cb)) 75 ∧ w3.cell? ⟨B, 3, none⟩ = some (.slice (some ⟨C, 0, none⟩) 2 cc) ∧ B < w3.heap.size ∧ (Q < O3 ∧ Q < B ∧ Q < p)) := Lib.hid ⟨hp, hO3, hc3, hBl, by have := HQ3.out.lt; have := hlo; omega⟩
  clear hp hO3 hc3 hBl hlo hb CD HB3 HQ3
  have HOI3 := Lib.hid (offl_info g3 1 l3 cl3 (.slice (some ⟨p, 0, none⟩) 4 cp) (.slice (some ⟨O3, 0, none⟩) 16 16))
  go_upto_region 4 with (refine wpList_store_has ?_ 67 (.tmp 2) (.tmp 24) ?_ Q ?_ (offL g3 1 l3 cl3 (.slice (some ⟨p, 0, none⟩) 4 cp) (.slice (some ⟨O3, 0, none⟩) 16 16)) ?_ _ _ HQ.out HOI3.out ?_ ?_ ?_; rfl; rfl; rfl; rfl; rfl; rfl; intro w4 hh hl)
  obtain ⟨HPO, hO, hc3, hBl, hq1, hq2, hq3⟩ := HF.out
  have HP4 : Hid (PoAt w4 p) := Lib.hid (HPO.leaves hl (by show ¬ p = Q; omega))
  have hO4 : Has w4 O3 (out2 (.slice (some ⟨B, 0, none⟩) 1 cb)) 75 := hO.leaves hl (by show ¬ O3 = Q; omega)
  have q8 : w4.cell? ⟨Q, 8, none⟩ = some (.slice (some ⟨O3, 0, none⟩) 16 16) := hh.cell 8
  have q7 : w4.cell? ⟨Q, 7, none⟩ = some (.slice (some ⟨p, 0, none⟩) 4 cp) := hh.cell 7
  have q6 : w4.cell? ⟨Q, 6, none⟩ = some (.int .i64 0) := hh.cell 6
  have o2 : w4.cell? ⟨O3, 2, none⟩ = some (.slice (some ⟨B, 0, none⟩) 1 cb) := hO4.cell 2
  have b3 : w4.cell? ⟨B, 3, none⟩ = some (.slice (some ⟨C, 0, none⟩) 2 cc) := (cell_leaves hl hBl (by show ¬ B = Q; omega)).trans hc3
  have HH := Lib.hid hh
  replace HB := Lib.hid (HB.out.trans (hl.new_or HQN.out HB.out.size))
  have ql := hh.lt
  have ol := hO4.lt
  have bl : B < w4.heap.size := Nat.lt_of_lt_of_le hBl hl.size
  clear HPO hO hc3 hBl hq1 hq2 hq3 hO4 hh hl HF HQ HOI HOI3
  have CB : Hid (Calls Tryz.prog 21 #[.agg #[.int .i64 0, .slice (some ⟨p, 0, none⟩) 4 cp], .int .i64 1, .int .i64 2] w4 fun e w' => e = .returned (.tuple #[.agg #[.int .i64 15, .int .i64 35], .int .i64 0]) ∧ Below w4.heap.size w4 w') := Lib.hid (balance_four p cp w4 HP4.out)
  go_wp2_with fail
  refine CB.out.mono ?_
  rintro e w5 ⟨rfl, hb⟩
  replace HB := Lib.hid (HB.out.trans (hb.mono HB.out.size))
  clear CB hb HH HP4 q8 q7 q6 o2 b3 ql ol bl
  have HF : Hid (Below w.heap.size w (w5.alloc (.cells #[.int .i64 15, .int .i64 35] 79))) := Lib.hid (HB.out.alloc HB.out.size _)
  go_wp2_with fail
  go_ret
  exact ⟨rfl, HF.out⟩
end Go.Proofs.YtbeikfopneeodaaGreat
namespace Go.Proofs.YtbeikfopneeodaaGreat.Re

/-- a retrocession -/
structure Rt where
  fr : Int
  ds : Int
  sh : Int
  re : Int
  li : Int

def proper (r : Rt) : Prop := 1 ≤ r.sh ∧ r.sh ≤ 1000000 ∧ 0 ≤ r.re ∧ r.re ≤ 1073741824 ∧ 1 ≤ r.li ∧ r.li ≤ 1073741824
instance (r : Rt) : Decidable (proper r) := inferInstanceAs (Decidable (_ ∧ _))

/-- what a retrocession takes over -/
def ced (r : Rt) (x : Int) : Int := if proper r ∧ 0 ≤ x ∧ x ≤ 17592186044416 ∧ r.re < x then min ((x - r.re) * r.sh / 1000000) r.li else 0

theorem floor_share (a num : Int) (a0 : 0 ≤ a) (a1 : a ≤ 17592186044416) (n0 : 0 ≤ num) (n1 : num ≤ 1000000) : Am.md a num 1000000 2 = (a * num / 1000000, 0) ∧ 0 ≤ a * num / 1000000 ∧ a * num / 1000000 ≤ a := by
  have hp : 0 ≤ a * num := Int.mul_nonneg a0 n0
  have hle : a * num ≤ a * 1000000 := Int.mul_le_mul_of_nonneg_left n1 a0
  have h1 : 0 ≤ a * num / 1000000 := by omega
  have h2 : a * num / 1000000 ≤ a := by omega
  have hm : Am.mag a num 1000000 2 = a * num / 1000000 := by
    have e : Am.absI a = a := by unfold Am.absI; split <;> omega
    have ha : Am.awayB (a * num / 1000000) (a * num % 1000000) 1000000 (decide (a < 0)) 2 = false := by
      unfold Am.awayB
      split
      · rfl
      · rw [if_pos rfl]; simp; omega
    rw [Am.mag, e, ha]
    simp
  refine ⟨?_, h1, h2⟩
  rw [Am.md_ok (by omega) ⟨(Am.validB_iff _).2 ⟨by omega, a1⟩, (Am.factorB_iff _).2 ⟨n0, by omega⟩, (Am.factorB_iff _).2 ⟨by omega, by omega⟩⟩ (by omega) (by rw [hm]; omega), if_neg (by omega), hm]

theorem ced_bound (r : Rt) (x : Int) : 0 ≤ ced r x ∧ ced r x ≤ 1073741824 := by
  unfold ced
  split
  · next h =>
    obtain ⟨⟨h1, h2, h3, h4, h5, h6⟩, h7, h8, h9⟩ := h
    have : 0 ≤ (x - r.re) * r.sh := Int.mul_nonneg (by omega) (by omega)
    omega
  · omega

/-- b, to which the numbers v are added at the places s -/
def acc (b : Nat → Int) (s : Nat → Nat) (v : Nat → Int) : Nat → Nat → Int
  | 0, i => b i
  | k + 1, i => if i = s k then acc b s v k i + v k else acc b s v k i

theorem acc_hit {b : Nat → Int} {s : Nat → Nat} {v : Nat → Int} (k i : Nat) (h : i = s k) : acc b s v (k + 1) i = acc b s v k i + v k := by rw [acc, if_pos h]
theorem acc_miss {b : Nat → Int} {s : Nat → Nat} {v : Nat → Int} (k i : Nat) (h : i ≠ s k) : acc b s v (k + 1) i = acc b s v k i := by rw [acc, if_neg h]
theorem acc_bound (b : Nat → Int) (s : Nat → Nat) (v : Nat → Int) (V : Int) (k i : Nat) (h : ∀ j, j < k → 0 ≤ v j ∧ v j ≤ V) (hV : 0 ≤ V) : b i ≤ acc b s v k i ∧ acc b s v k i ≤ b i + V * k := by
  induction k with
  | zero => simp [acc]
  | succ k ih =>
    have h1 := ih fun j hj => h j (by omega)
    have h2 := h k (by omega)
    rw [acc, show V * ((k + 1 : Nat) : Int) = V * k + V by rw [Int.natCast_succ, Int.mul_add, Int.mul_one]]
    split <;> omega
theorem acc_neg (b : Nat → Int) (s : Nat → Nat) (v : Nat → Int) (V : Int) (k i : Nat) (h : ∀ j, j < k → -V ≤ v j ∧ v j ≤ 0) (hV : 0 ≤ V) : b i - V * k ≤ acc b s v k i ∧ acc b s v k i ≤ b i := by
  induction k with
  | zero => simp [acc]
  | succ k ih =>
    have h1 := ih fun j hj => h j (by omega)
    have h2 := h k (by omega)
    rw [acc, show V * ((k + 1 : Nat) : Int) = V * k + V by rw [Int.natCast_succ, Int.mul_add, Int.mul_one]]
    split <;> omega
theorem acc_mono_step (b : Nat → Int) (s : Nat → Nat) (v : Nat → Int) (k i : Nat) (h : 0 ≤ v k) : acc b s v k i ≤ acc b s v (k + 1) i := by
  rw [acc]; split <;> omega
theorem acc_mono (b : Nat → Int) (s : Nat → Nat) (v : Nat → Int) (i k m : Nat) (hkm : k ≤ m) (h : ∀ j, j < m → 0 ≤ v j) : acc b s v k i ≤ acc b s v m i := by
  induction m with
  | zero => have : k = 0 := by omega
            subst this; exact Int.le_refl _
  | succ m ih =>
    by_cases e : k = m + 1
    · subst e; exact Int.le_refl _
    · exact Int.le_trans (ih (by omega) fun j hj => h j (by omega)) (acc_mono_step b s v m i (h m (by omega)))
theorem acc_congr {b b' : Nat → Int} {s s' : Nat → Nat} {v v' : Nat → Int} (k i : Nat) (hb : b i = b' i) (h : ∀ j, j < k → s j = s' j ∧ v j = v' j) : acc b s v k i = acc b' s' v' k i := by
  induction k with
  | zero => exact hb
  | succ k ih =>
    rw [acc, acc, (h k (by omega)).1, (h k (by omega)).2, ih fun j hj => h j (by omega)]

def frN (R : Nat → Rt) (j : Nat) : Nat := (R j).fr.toNat
def toN (R : Nat → Rt) (j : Nat) : Nat := (R j).ds.toNat
def shs (R : Nat → Rt) : Nat → Nat → Int := acc (fun _ => 0) (frN R) (fun j => (R j).sh)

def oc (o : Nat → Int) (i : Nat) : Int := if 0 ≤ o i ∧ o i ≤ 1073741824 then 0 else 1
def rc (n : Nat) (R : Nat → Rt) (i : Nat) : Int :=
  if ¬ (0 ≤ (R i).fr ∧ (R i).fr < n ∧ 0 ≤ (R i).ds ∧ (R i).ds < n) then 7 else if (R i).fr = (R i).ds then 8 else if ¬ proper (R i) then 1 else 0
def sc (R : Nat → Rt) (k : Nat) : Int := if 1000000 < shs R (k + 1) (frN R k) then 14 else 0
def sr (R : Nat → Rt) (m i : Nat) : Int := if 1000000 < shs R m i then 14 else 0

/-- the fault of a market -/
def verr (n : Nat) (o : Nat → Int) (m : Nat) (R : Nat → Rt) : Int :=
  if n = 0 ∨ 16 < n ∨ 24 < m then 4 else if scan (oc o) n 0 ≠ 0 then 1 else if scan (rc n R) m 0 ≠ 0 then scan (rc n R) m 0 else scan (sc R) m 0

theorem rc_fine {n : Nat} {R : Nat → Rt} {i : Nat} (h : rc n R i = 0) : (0 ≤ (R i).fr ∧ (R i).fr < n ∧ 0 ≤ (R i).ds ∧ (R i).ds < n) ∧ (R i).fr ≠ (R i).ds ∧ proper (R i) := by
  unfold rc at h
  by_cases h1 : 0 ≤ (R i).fr ∧ (R i).fr < n ∧ 0 ≤ (R i).ds ∧ (R i).ds < n
  · rw [if_neg (fun c => c h1)] at h
    by_cases h2 : (R i).fr = (R i).ds
    · rw [if_pos h2] at h; omega
    · rw [if_neg h2] at h
      by_cases h3 : proper (R i)
      · exact ⟨h1, h2, h3⟩
      · rw [if_pos h3] at h; omega
  · rw [if_pos h1] at h; omega

theorem shs_found (R : Nat → Rt) (m i : Nat) (h : 1000000 < shs R m i) : ∃ k, k < m ∧ frN R k = i ∧ 1000000 < shs R (k + 1) i := by
  induction m with
  | zero => simp [shs, acc] at h
  | succ m ih =>
    by_cases e : i = frN R m
    · exact ⟨m, by omega, e.symm, h⟩
    · rw [shs, acc_miss _ _ e] at h
      obtain ⟨k, h1, h2, h3⟩ := ih h
      exact ⟨k, by omega, h2, h3⟩

theorem scan_two (c : Nat → Int) (k i : Nat) (h : ∀ j, c j = 0 ∨ c j = 14) : scan c k i = 0 ∨ scan c k i = 14 := by
  induction k generalizing i with
  | zero => exact .inl rfl
  | succ k ih =>
    rw [scan]
    split
    · exact ih (i + 1)
    · next hc => exact .inr ((h i).resolve_left hc)

theorem shares_same (n m : Nat) (R : Nat → Rt) (h : scan (rc n R) m 0 = 0) : scan (sr R m) n 0 = scan (sc R) m 0 := by
  have hf : ∀ j, j < m → (0 ≤ (R j).fr ∧ (R j).fr < n ∧ 0 ≤ (R j).ds ∧ (R j).ds < n) ∧ (R j).fr ≠ (R j).ds ∧ proper (R j) := fun j hj => rc_fine (scan_zero _ _ _ h j (by omega) (by omega))
  have e1 := scan_two (sr R m) n 0 fun j => by unfold sr; split <;> simp
  have e2 := scan_two (sc R) m 0 fun j => by unfold sc; split <;> simp
  rcases e1 with e1 | e1 <;> rcases e2 with e2 | e2
  · rw [e1, e2]
  · exfalso
    have : scan (sc R) m 0 = 0 := scan_fine _ _ _ fun j _ hj => by
      unfold sc
      rw [if_neg]
      intro c
      have hj' : j < m := by omega
      have h0 := scan_zero _ _ _ e1 (frN R j) (by omega) (by have := (hf j hj').1; unfold frN; omega)
      unfold sr at h0
      have h1 : shs R (j + 1) (frN R j) ≤ shs R m (frN R j) := acc_mono _ _ _ _ _ _ (by omega) fun q hq => by have := (hf q hq).2.2.1; omega
      rw [if_pos (by omega)] at h0
      omega
    omega
  · exfalso
    have : scan (sr R m) n 0 = 0 := scan_fine _ _ _ fun i _ hi => by
      unfold sr
      rw [if_neg]
      intro c
      obtain ⟨k, h1, h2, h3⟩ := shs_found R m i c
      have h0 := scan_zero _ _ _ e2 k (by omega) (by omega)
      unfold sc at h0
      rw [h2, if_pos h3] at h0
      omega
    omega
  · rw [e1, e2]

theorem verr_fine {n : Nat} {o : Nat → Int} {m : Nat} {R : Nat → Rt} (h : verr n o m R = 0) : 1 ≤ n ∧ n ≤ 16 ∧ m ≤ 24 ∧ (∀ i, i < n → 0 ≤ o i ∧ o i ≤ 1073741824) ∧
    ∀ j, j < m → (0 ≤ (R j).fr ∧ (R j).fr < n ∧ 0 ≤ (R j).ds ∧ (R j).ds < n) ∧ (R j).fr ≠ (R j).ds ∧ proper (R j) := by
  unfold verr at h
  by_cases h1 : n = 0 ∨ 16 < n ∨ 24 < m
  · rw [if_pos h1] at h; omega
  rw [if_neg h1] at h
  by_cases h2 : scan (oc o) n 0 = 0
  · rw [if_neg (by rw [h2]; simp)] at h
    by_cases h3 : scan (rc n R) m 0 = 0
    · refine ⟨by omega, by omega, by omega, fun i hi => ?_, fun j hj => rc_fine (scan_zero _ _ _ h3 j (by omega) (by omega))⟩
      have := scan_zero _ _ _ h2 i (by omega) (by omega)
      unfold oc at this
      by_cases c : 0 ≤ o i ∧ o i ≤ 1073741824
      · exact c
      · rw [if_neg c] at this; omega
    · rw [if_pos h3] at h; exact absurd h h3
  · rw [if_pos h2] at h; omega

def xc (x : Nat → Int) (i : Nat) : Int := if 0 ≤ x i ∧ x i ≤ 17592186044416 then 0 else 1

/-- the fault of a list of losses -/
def lerr (n : Nat) (o : Nat → Int) (m : Nat) (R : Nat → Rt) (nx : Nat) (x : Nat → Int) : Int :=
  if verr n o m R ≠ 0 then verr n o m R else if nx ≠ n then 4 else scan (xc x) nx 0

def ceds (R : Nat → Rt) (x : Nat → Int) (j : Nat) : Int := ced (R j) (x (frN R j))
/-- one step -/
def step (o : Nat → Int) (m : Nat) (R : Nat → Rt) (x : Nat → Int) : Nat → Int := acc o (toN R) (ceds R x) m
def net (m : Nat) (R : Nat → Rt) (x : Nat → Int) : Nat → Int := acc x (frN R) (fun j => -ceds R x j) m
def top (o : Nat → Int) (m : Nat) (R : Nat → Rt) : Nat → Int := acc o (toN R) (fun j => (R j).li) m

theorem lerr_fine {n : Nat} {o : Nat → Int} {m : Nat} {R : Nat → Rt} {nx : Nat} {x : Nat → Int} (h : lerr n o m R nx x = 0) : verr n o m R = 0 ∧ nx = n ∧ ∀ i, i < n → 0 ≤ x i ∧ x i ≤ 17592186044416 := by
  unfold lerr at h
  by_cases h1 : verr n o m R = 0
  · rw [if_neg (by rw [h1]; simp)] at h
    by_cases h2 : nx = n
    · rw [if_neg (by rw [h2]; simp)] at h
      subst h2
      refine ⟨h1, rfl, fun i hi => ?_⟩
      have := scan_zero _ _ _ h i (by omega) (by omega)
      unfold xc at this
      by_cases c : 0 ≤ x i ∧ x i ≤ 17592186044416
      · exact c
      · rw [if_neg c] at this; omega
    · rw [if_pos h2] at h; omega
  · rw [if_pos h1] at h; exact absurd h h1
theorem lerr_ok {n : Nat} {o : Nat → Int} {m : Nat} {R : Nat → Rt} {x : Nat → Int} (h : verr n o m R = 0) (hx : ∀ i, i < n → 0 ≤ x i ∧ x i ≤ 17592186044416) : lerr n o m R n x = 0 := by
  rw [lerr, if_neg (by rw [h]; simp), if_neg (by simp)]
  exact scan_fine _ _ _ fun j _ hj => if_pos (hx j (by omega))

theorem ceds_bound (R : Nat → Rt) (x : Nat → Int) (j : Nat) : 0 ≤ ceds R x j ∧ ceds R x j ≤ 1073741824 := ced_bound _ _
theorem step_bound (o : Nat → Int) (m : Nat) (R : Nat → Rt) (x : Nat → Int) (i : Nat) : o i ≤ step o m R x i ∧ step o m R x i ≤ o i + 1073741824 * m :=
  acc_bound _ _ _ _ _ _ (fun j _ => ceds_bound R x j) (by omega)

/-- the iteration from a list on, at most f calls more, of which the next is number c -/
def sett (F : (Nat → Int) → Nat → Int) (n : Nat) : Nat → Nat → (Nat → Int) → Option ((Nat → Int) × Nat)
  | 0, _, _ => none
  | f + 1, c, x => if ∀ i, i < n → F x i = x i then some (F x, c) else sett F n f (c + 1) (F x)
end Go.Proofs.YtbeikfopneeodaaGreat.Re
namespace Go.Proofs.YtbeikfopneeodaaGreat.Ref

theorem i64_and1 (n : Int) : bits .and .i64 n 1 = n % 2 := by
  have h1 : (BitVec.ofInt 64 1).toNat = 2 ^ 1 - 1 := by decide
  have key : (BitVec.ofInt 64 n &&& BitVec.ofInt 64 1).toNat = (n % ((2 ^ 64 : Nat) : Int)).toNat % 2 ^ 1 := by
    rw [BitVec.toNat_and, BitVec.toNat_ofInt, h1, Nat.and_two_pow_sub_one_eq_mod]
  show IntKind.i64.wrap ((BitVec.ofInt 64 n &&& BitVec.ofInt 64 1).toNat : Nat) = n % 2
  rw [key, IntKind.wrap_i64]
  omega

def dq (a num den : Int) (j : Nat) : Int := a / 2 ^ j * num / den
def dr (a num den : Int) (j : Nat) : Int := a / 2 ^ j * num % den

theorem half (a : Int) (j : Nat) : a / 2 ^ j = 2 * (a / 2 ^ (j + 1)) + a / 2 ^ j % 2 := by
  rw [Int.pow_succ, ← Int.ediv_ediv_of_nonneg (Int.pow_nonneg (by omega))]
  omega

theorem step (a num den b : Int) (j : Nat) (hd : 0 < den) (hb : a / 2 ^ j % 2 = b) :
    dq a num den j = 2 * dq a num den (j + 1) + (2 * dr a num den (j + 1) + b * num) / den ∧
    dr a num den j = (2 * dr a num den (j + 1) + b * num) % den := by
  unfold dq dr
  have h := half a j
  rw [hb] at h
  rw [h]
  generalize a / 2 ^ (j + 1) = A
  have e := Int.mul_ediv_add_emod (A * num) den
  have e2 : (2 * A + b) * num = (2 * (A * num % den) + b * num) + den * (2 * (A * num / den)) := by
    rw [Int.add_mul, Int.mul_assoc, Int.mul_left_comm den 2]
    generalize A * num % den = r at *
    generalize den * (A * num / den) = t at *
    omega
  rw [e2, Int.add_mul_ediv_left _ _ (by omega), Int.add_mul_emod_self_left]
  exact ⟨by omega, rfl⟩

theorem dr_bound (a num den : Int) (j : Nat) (hd : 0 < den) : 0 ≤ dr a num den j ∧ dr a num den j < den :=
  ⟨Int.emod_nonneg _ (by omega), Int.emod_lt_of_pos _ hd⟩

theorem dq_nonneg (a num den : Int) (j : Nat) (ha : 0 ≤ a) (hn : 0 ≤ num) (hd : 0 < den) : 0 ≤ dq a num den j :=
  Int.ediv_nonneg (Int.mul_nonneg (Int.ediv_nonneg ha (Int.pow_nonneg (by omega))) hn) (by omega)

theorem dq_mono (a num den : Int) (j : Nat) (ha : 0 ≤ a) (hn : 0 ≤ num) (hd : 0 < den) : dq a num den j ≤ a * num / den :=
  Int.ediv_le_ediv hd (Int.mul_le_mul_of_nonneg_right (Int.ediv_le_self _ ha) hn)

theorem dq_zero (a num den : Int) : dq a num den 0 = a * num / den ∧ dr a num den 0 = a * num % den := by
  simp [dq, dr]

theorem dq_top (a num den : Int) (h0 : 0 ≤ a) (h1 : a ≤ 17592186044416) : dq a num den 46 = 0 ∧ dr a num den 46 = 0 := by
  have : a / 2 ^ 46 = 0 := Int.ediv_eq_zero_of_lt h0 (by omega)
  unfold dq dr
  rw [this]; simp

/-- the quotient that one round adds -/
theorem add_bound (x den : Int) (hx : 0 ≤ x) (hx2 : x ≤ 9024791440785408) (hd : 1 ≤ den) : 0 ≤ x / den ∧ x / den ≤ 9024791440785408 :=
  ⟨Int.ediv_nonneg hx (by omega), Int.le_trans (Int.ediv_le_self _ hx) hx2⟩

/-- what up answers -/
theorem up_eq (q r den m : Int) (neg : Bool) (h0 : 0 ≤ r) (h1 : 1 ≤ den) :
    Am.awayB q r den neg m = (if m = 2 then neg && decide (0 < r) else if m = 3 then !neg && decide (0 < r) else if m = 4 then decide (den ≤ 2 * r)
      else if m = 5 then (decide (den < 2 * r) || (decide (2 * r = den) && (q % 2 == 1))) else false) := by
  unfold Am.awayB
  by_cases hr : r = 0
  · subst hr
    have h3 : ¬ den ≤ 2 * 0 := by omega
    have h4 : ¬ den < 2 * 0 := by omega
    have h5 : ¬ (2 * 0 = den) := by omega
    simp only [if_true, h3, h4, h5]
    cases neg <;> simp
  · rw [if_neg hr]
    have hr' : 0 < r := by omega
    by_cases h2 : m = 2
    · simp [h2, hr']
    by_cases h3 : m = 3
    · simp [h3, hr']
    by_cases h4 : m = 4
    · simp [h4]
    by_cases h5 : m = 5
    · simp only [h5, if_true]
      by_cases h6 : 2 * r = den
      · have : ¬ den < 2 * r := by omega
        simp [h6]
      · have : decide (den ≤ 2 * r) = decide (den < 2 * r) := by simp; omega
        simp [h6, this]
    · simp [h2, h3, h4, h5]
end Go.Proofs.YtbeikfopneeodaaGreat.Ref
namespace Go.Proofs.YtbeikfopneeodaaGreat
open Go.RowKit

/-- what the division answers: the quotient and the remainder, or nothing above twice the greatest amount -/
def Ref.Div (Q R o1 o2 : Int) (b : Bool) : Prop := (Q ≤ 35184372088832 ∧ o1 = Q ∧ o2 = R ∧ b = true) ∨ (35184372088832 < Q ∧ o1 = 0 ∧ o2 = 0 ∧ b = false)

end Go.Proofs.YtbeikfopneeodaaGreat
