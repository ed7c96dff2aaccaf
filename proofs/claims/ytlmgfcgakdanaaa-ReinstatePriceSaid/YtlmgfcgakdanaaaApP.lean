/- reinstate.Apply: what each event uses. -/
import Derived.Test.YtlmgfcgakdanaaaApU
import Derived.Test.YtlmgfcgakdanaaaAgg
import Derived.Test.YtlmgfcgakdanaaaTyG
import Derived.Deep.RegionHeld3
import Derived.Deep.CutBlock
import Derived.LoopTactic
namespace Go.Proofs.Ytlmgfcgakdanaaa
open Go.RowKit
set_option linter.unusedVariables false
attribute [local go_sem ↓] exec_load_ty

/-- the errors of Apply, and the uses -/
def Ty.aerr (t : Ty) (nh : Nat) (h : Nat → Int) (n : Nat) (l : Nat → Int) : Int := if t.xerr ≠ 0 then t.xerr else Rn.eerr nh h n l
def Ty.uses (t : Ty) (h l : Nat → Int) (i : Nat) : T3 := t.use (h i) (Rn.at' t.ded t.most l i) (Rn.at' t.ded t.most l (i + 1))

/-- what Apply returns -/
def UsesPost (er : Int) (n : Nat) (U : Nat → T3) (w : World) (e : Ending) (w' : World) : Prop :=
  (er ≠ 0 ∧ e = .returned (.tuple #[.slice none 0 0, .int .i64 er]) ∧ Below w.heap.size w w') ∨
  (er = 0 ∧ ∃ (g c : Nat), e = .returned (.tuple #[.slice (some ⟨g, 0, none⟩) n c, .int .i64 0]) ∧ w.heap.size ≤ g ∧ Trips w' w'.heap.size (some ⟨g, 0, none⟩) n U ∧ Below w.heap.size w w')
theorem UsesPost.err {er er' : Int} {n : Nat} {U : Nat → T3} {w w' : World} (h : er' = er) (hn : er ≠ 0) (hb : Below w.heap.size w w') : UsesPost er n U w (.returned (.tuple #[.slice none 0 0, .int .i64 er'])) w' := .inl ⟨hn, by rw [h], hb⟩

set_option maxRecDepth 100000 in
theorem use_info : (Try.prog.info? 47).map (fun i => (i.zero, i.size, i.bytes)) = some (some (.agg #[.int .i64 0, .int .i64 0, .int .i64 0]), 3, 24) := by kernel_rfl

theorem Row.some_rows {w : World} {g n base size : Nat} {e : TypeId} {xs : List Value} (ho : w.ownsRow base e size (.slice (some ⟨g, 0, none⟩) n n) n xs) : ∃ h : Nat → Value, Row w g (n * size) e h := by
  have hl := ho.1
  exact ⟨fun j => xs.getD j undef, Row.made (h := fun j => xs.getD j undef) ho fun j hj => by
    rw [List.getElem?_eq_getElem (by omega)]
    simp [List.getD, List.getElem?_eq_getElem (show j < xs.length by omega)]⟩
theorem Row.trips {w : World} {g n : Nat} {t : TypeId} {h : Nat → Value} {U : Nat → T3} (hr : Row w g (n * 3) t h) (hh : ∀ q, q < n * 3 → h q = tripAt U q) : Trips w w.heap.size (some ⟨g, 0, none⟩) n U :=
  Cells.congr hr.cells hh
/-- one struct of three more is filled in -/
theorem trips_step {h : Nat → Value} {U : Nat → T3} {k : Nat} {a b c : Int} (hh : ∀ q, q < k * 3 → h q = tripAt U q) (hu : U k = ⟨a, b, c⟩) :
    ∀ q, q < (k + 1) * 3 → (fun i => if i = k * 3 + 2 then Value.int .i64 c else (fun i => if i = k * 3 + 1 then Value.int .i64 b else (fun i => if i = k * 3 then Value.int .i64 a else h i) i) i) q = tripAt U q := fun q hq => by
  simp only
  by_cases h1 : q = k * 3 + 2
  · rw [if_pos h1]
    unfold tripAt
    rw [if_neg (by omega), if_neg (by omega), show q / 3 = k by omega, hu]
  · rw [if_neg h1]
    by_cases h2 : q = k * 3 + 1
    · rw [if_pos h2]
      unfold tripAt
      rw [if_neg (by omega), if_pos (by omega), show q / 3 = k by omega, hu]
    · rw [if_neg h2]
      by_cases h3 : q = k * 3
      · rw [if_pos h3]
        unfold tripAt
        rw [if_pos (by omega), show q / 3 = k by omega, hu]
      · rw [if_neg h3]
        exact hh q (by omega)

theorem Ty.uses_fine {t : Ty} {nh n : Nat} {h l : Nat → Int} (hx : t.xerr = 0) (he : Rn.eerr nh h n l = 0) : Rn.Sums n l ∧ nh = n ∧ (∀ i, i < n → 0 ≤ h i ∧ h i ≤ 876599) := by
  obtain ⟨h1, h2, h3, h4⟩ := Rn.eerr_fine he
  exact ⟨⟨h1, fun i hi => (h3 i hi).2, h4⟩, h2, fun i hi => (h3 i hi).1⟩

set_option maxRecDepth 100000 in
set_option maxHeartbeats 8000000 in
theorem reapply_any (t : Ty) (Ah : Option Addr) (nh ch : Nat) (h : Nat → Int) (A : Option Addr) (n c : Nat) (l : Nat → Int) (w : World) (hi : t.In w w.heap.size) (hnh : nh ≤ 9223372036854775807) (hn : n ≤ 9223372036854775807) (hh : Nums w w.heap.size Ah nh h) (hl : Nums w w.heap.size A n l) :
    Calls Try.prog 21 #[.agg t.cells, .slice Ah nh ch, .slice A n c] w (UsesPost (t.aerr nh h n l) n (t.uses h l) w) := by
  have HTI := Lib.hid ty_info
  obtain ⟨R, hR⟩ : ∃ R, t.xerr = R := ⟨_, rfl⟩
  obtain ⟨E, hE⟩ : ∃ E, Rn.eerr nh h n l = E := ⟨_, rfl⟩
  have HF : Hid ((R ≠ 0 → R = t.aerr nh h n l) ∧ (R = 0 → E = t.aerr nh h n l)) := Lib.hid (by
    rw [← hR, ← hE]
    unfold Ty.aerr
    exact ⟨fun c => by rw [if_pos c], fun c => by rw [if_neg (fun q => q c)]⟩)
  have HXE : Hid (t.xerr = R ∧ Rn.eerr nh h n l = E) := Lib.hid ⟨hR, hE⟩
  have C1 : Hid (∀ W, t.In W W.heap.size → Calls Try.prog 33 #[.agg t.cells] W (IntPost R W)) := Lib.hid fun W hW => by rw [← hR]; exact check_any t W hW
  have C2 : Hid (∀ W, Nums W W.heap.size Ah nh h → Nums W W.heap.size A n l → Calls Try.prog 40 #[.slice Ah nh ch, .slice A n c] W fun e w' => e = .returned (.int .i64 E) ∧ W = w') := Lib.hid fun W h1 h2 => by rw [← hE]; exact events_any Ah nh ch h A n c l W hnh hn h1 h2
  have C3 : Hid (∀ W, t.In W W.heap.size → Calls Try.prog 18 #[.agg t.cells] W (IntPost t.cap W)) := Lib.hid fun W hW => capacity_any t W hW
  have HS := Lib.hid (Ty.Sits.new hi)
  have HH := Lib.hid hh
  have HL := Lib.hid hl
  obtain ⟨ER, hER⟩ : ∃ e, t.aerr nh h n l = e := ⟨_, rfl⟩
  rw [hER] at HF ⊢
  clear hR hE hER hi hh hl
  go_enter Try.func21, Try.ntmps21
  go_upto_region 1 with (fail)
  obtain ⟨w1, hw1⟩ : ∃ w1, w.alloc (.cells t.cells 27) = w1 := ⟨_, rfl⟩; obtain ⟨G, hG⟩ : ∃ G, w.heap.size = G := ⟨_, rfl⟩; have HSZ : Hid (w1.heap.size = G + 1) := Lib.hid (by rw [← hw1, ← hG]; simp); rw [hw1, hG] at HS ⊢; clear hw1 hG
  go_wp2_with ((refine wpList_load_has ?_ 27 (.tmp 3) ?_ G ?_ _ t.cells _ HS.out.box Try.underlying27 ?_ HTI.out ?_; rfl; rfl; rfl; rfl))
  refine (C1.out _ HS.out.inn).mono ?_
  rintro e w2 ⟨rfl, hb⟩
  replace HS := Lib.hid (HS.out.next hb)
  clear hb C1
  by_cases hq : R = 0
  rotate_left
  · have HG : Hid (R = ER ∧ ER ≠ 0) := Lib.hid (by have := HF.out.1 hq; exact ⟨this, by rw [← this]; exact hq⟩)
    have hq1 : (R == 0) = false := by rw [beq_eq_false_iff_ne]; exact hq
    have hq2 : (R != 0) = true := by simp [hq]
    clear HF hq
    go_wp2_with fail
    go_ret2
    exact UsesPost.err HG.out.1 HG.out.2 HS.out.out
  subst hq
  replace HF : Hid (E = ER) := Lib.hid (HF.out.2 rfl)
  go_wp2_with fail
  refine (C2.out _ ((HH.out.below HS.out.out).mono HS.out.le) ((HL.out.below HS.out.out).mono HS.out.le)).mono ?_
  rintro e w' ⟨rfl, rfl⟩
  clear C2
  by_cases hq : E = 0
  rotate_left
  · have HG : Hid (E = ER ∧ ER ≠ 0) := Lib.hid ⟨HF.out, by rw [← HF.out]; exact hq⟩
    have hq1 : (E == 0) = false := by rw [beq_eq_false_iff_ne]; exact hq
    have hq2 : (E != 0) = true := by simp [hq]
    clear HF hq
    go_wp2_with fail
    go_ret2
    exact UsesPost.err HG.out.1 HG.out.2 HS.out.out
  subst hq
  have HG : Hid (ER = 0) := Lib.hid HF.out.symm
  obtain ⟨hsm, hnn, hhr⟩ := Ty.uses_fine HXE.out.1 HXE.out.2
  have HX0 : Hid (t.xerr = 0) := Lib.hid HXE.out.1
  have HSM := Lib.hid hsm
  have HHR := Lib.hid hhr
  have n64 := hsm.n64
  obtain rfl : n = nh := hnn.symm
  have hxs := Ty.xspans HX0.out
  have hmo := Ty.most_bound HX0.out
  have hcb := Ty.cap_bound HX0.out
  obtain ⟨_, _, ⟨d0, d1⟩, ⟨a0, a1⟩, _⟩ := hxs
  have hMd : t.most = if t.cap ≠ 0 ∧ (t.agg = 0 ∨ t.cap < t.agg) then t.cap else t.agg := rfl
  have hU : ∀ i, t.uses h l i = t.use (h i) (Rn.at' t.ded t.most l i) (Rn.at' t.ded t.most l (i + 1)) := fun i => rfl
  have HUS := Lib.hid hU
  obtain ⟨U, hUe⟩ : ∃ U, t.uses h l = U := ⟨_, rfl⟩
  rw [hUe] at HUS
  have HUE := Lib.hid hUe
  obtain ⟨ag, hag⟩ : ∃ x, t.agg = x := ⟨_, rfl⟩
  obtain ⟨cp, hcp⟩ : ∃ x, t.cap = x := ⟨_, rfl⟩
  obtain ⟨dd, hdd⟩ : ∃ x, t.ded = x := ⟨_, rfl⟩
  obtain ⟨M, hM⟩ : ∃ x, t.most = x := ⟨_, rfl⟩
  have HAG : Hid (t.agg = ag ∧ t.ded = dd) := Lib.hid ⟨hag, hdd⟩
  rw [hM] at hmo hMd HUS
  rw [hdd] at d0 d1 HUS
  rw [hag] at a0 a1 hMd
  rw [hcp] at hcb hMd C3
  obtain ⟨m0, m1⟩ := hmo
  obtain ⟨c0, c1⟩ := hcb
  obtain ⟨B, hB⟩ : ∃ B, decide (cp ≠ 0 ∧ (ag = 0 ∨ cp < ag)) = B := ⟨_, rfl⟩
  have HMC : Hid ((cp = 0 ∧ B = false) ∨ (cp ≠ 0 ∧ ag = 0 ∧ B = true) ∨ (cp ≠ 0 ∧ ag ≠ 0 ∧ cp < ag ∧ B = true) ∨ (cp ≠ 0 ∧ ag ≠ 0 ∧ ag ≤ cp ∧ B = false)) := Lib.hid (by
    rw [← hB]
    by_cases q1 : cp = 0
    · exact .inl ⟨q1, by rw [decide_eq_false_iff_not]; omega⟩
    · by_cases q2 : ag = 0
      · exact .inr (.inl ⟨q1, q2, by rw [decide_eq_true_iff]; omega⟩)
      · by_cases q3 : cp < ag
        · exact .inr (.inr (.inl ⟨q1, q2, q3, by rw [decide_eq_true_iff]; omega⟩))
        · exact .inr (.inr (.inr ⟨q1, q2, by omega, by rw [decide_eq_false_iff_not]; omega⟩)))
  have HBM : Hid ((B = true ∧ M = cp) ∨ (B = false ∧ M = ag)) := Lib.hid (by
    rw [← hB, hMd]
    by_cases q1 : cp ≠ 0 ∧ (ag = 0 ∨ cp < ag)
    · exact .inl ⟨by rw [decide_eq_true_iff]; exact q1, if_pos q1⟩
    · exact .inr ⟨by rw [decide_eq_false_iff_not]; exact q1, if_neg q1⟩)
  clear hB
  clear HF HXE hsm hhr hMd hU hUe hag hcp hdd hM
  have x14 : w2.cell? ⟨G, 14, none⟩ = some (.int .i64 t.agg) := HS.out.box.cell 14
  rw [HAG.out.1] at x14
  go_wp2_with ((refine wpList_load_has ?_ 27 (.tmp 3) ?_ G ?_ _ t.cells _ HS.out.box Try.underlying27 ?_ HTI.out ?_; rfl; rfl; rfl; rfl))
  refine (C3.out _ HS.out.inn).mono ?_
  rintro e w3 ⟨rfl, hb⟩
  replace HS := Lib.hid (HS.out.next hb)
  clear hb C3 x14
  go_upto_region 9 with (fail)
  go_cut [45] (fun v wx => v = .bool B ∧ w3 = wx)
  case first =>
    clear HS HH HL HG HX0 HSM HHR HUS HAG HBM
    rcases HMC.out with ⟨rfl, rfl⟩ | ⟨q1, rfl, rfl⟩ | ⟨q1, q2, q3, rfl⟩ | ⟨q1, q2, q3, rfl⟩
    · clear HMC
      go_wp2_with fail
      go_meet
      case rel => exact ⟨rfl, rfl⟩
    · have q4 : (cp == 0) = false := by rw [beq_eq_false_iff_ne]; exact q1
      have q5 : (cp != 0) = true := by simp [q1]
      clear HMC q1
      go_wp2_with fail
      go_meet
      case rel => exact ⟨rfl, rfl⟩
    · have q4 : (cp == 0) = false := by rw [beq_eq_false_iff_ne]; exact q1
      have q5 : (cp != 0) = true := by simp [q1]
      have q6 : (ag == 0) = false := by rw [beq_eq_false_iff_ne]; exact q2
      clear HMC q1 q2
      go_wp2_with fail
      go_meet
      case rel => exact ⟨rfl, rfl⟩
    · have q4 : (cp == 0) = false := by rw [beq_eq_false_iff_ne]; exact q1
      have q5 : (cp != 0) = true := by simp [q1]
      have q6 : (ag == 0) = false := by rw [beq_eq_false_iff_ne]; exact q2
      have q7 : decide (cp < ag) = false := by rw [decide_eq_false_iff_not]; omega
      clear HMC q1 q2
      go_wp2_with fail
      go_meet
      case rel => exact ⟨rfl, rfl⟩
  case' rest =>
    obtain ⟨rfl, rfl⟩ := hcut
    clear HMC
  go_upto_if 45 with (fail)
  go_cut [10] (fun v wx => v = .int .i64 M ∧ w3 = wx)
  case first =>
    clear HS HH HL HG HX0 HSM HHR HUS HAG
    rcases HBM.out with ⟨rfl, rfl⟩ | ⟨rfl, rfl⟩
    all_goals
      clear HBM
      go_wp2_with fail
      go_meet
      case rel => exact ⟨rfl, rfl⟩
  case' rest =>
    obtain ⟨rfl, rfl⟩ := hcut
    clear HBM
  have x13 : w3.cell? ⟨G, 13, none⟩ = some (.int .i64 t.ded) := HS.out.box.cell 13
  rw [HAG.out.2] at x13
  go_wp2_with fail
  refine (apply_any A n c l dd M _ HSM.out ((HL.out.below HS.out.out).mono HS.out.le) d0 (by omega) m0 (by omega)).mono ?_
  rintro e w4 ⟨g, c', rfl, hg, hnp, hb⟩
  replace HS := Lib.hid (HS.out.next hb)
  have HNP := Lib.hid hnp
  have HS0 : Hid (G < w4.heap.size) := Lib.hid HS.out.lt
  clear hb hnp hg x13
  try simp only
  go_wp2_with fail
  refine (running_any _).mono ?_
  rintro e w' ⟨rfl, rfl⟩
  have HT : Hid (Has (w4.alloc (.cells #[.int .i64 0] 3)) w4.heap.size #[.int .i64 0] 3) := Lib.hid (Has.new _ _ _)
  have HB4 : Hid (Below w4.heap.size w4 (w4.alloc (.cells #[.int .i64 0] 3))) := Lib.hid ((Below.refl _ _).alloc (Nat.le_refl _) _)
  replace HS := Lib.hid (HS.out.alloc (.cells #[.int .i64 0] 3))
  have hGS : G < w4.heap.size := by have h1 := HS0.out; omega
  obtain ⟨S, hS⟩ : ∃ S, w4.heap.size = S := ⟨_, rfl⟩
  obtain ⟨w5, hw5⟩ : ∃ W, w4.alloc (.cells #[.int .i64 0] 3) = W := ⟨_, rfl⟩
  rw [hw5, hS] at HT HB4
  rw [hw5] at HS
  rw [hS] at HNP hGS
  rw [hw5, hS]
  clear hw5 hS
  obtain ⟨i0, hi0, hz0, hz1, hz2⟩ := info_parts use_info
  obtain ⟨W1, hmk, ho, hg⟩ := run_make_full (P := Try.prog) w5 w.heap.size 41 47 i0 (.agg #[.int .i64 0, .int .i64 0, .int .i64 0]) 3 Try.underlying41 hi0 hz0 hz1 .i64 .i64 n (by rw [hz2]; omega) (by unfold maxLen; omega) HS.out.le
  obtain ⟨h0, hrow⟩ := Row.some_rows ho
  have hb6 : Below w5.heap.size w5 W1 := (Below.refl _ _).grown hg (Nat.le_refl _) (fun _ h => by cases h)
  have hST : S < w5.heap.size := HT.out.lt
  have HR : Hid (Row W1 w5.heap.size (n * 3) 47 h0) := Lib.hid hrow
  replace HT := Lib.hid (HT.out.below hb6 hST)
  replace HB4 := Lib.hid (HB4.out.trans (hb6.mono (Nat.le_of_lt hST)))
  replace HS := Lib.hid (HS.out.next hb6)
  obtain ⟨R, hR⟩ : ∃ R, w5.heap.size = R := ⟨_, rfl⟩
  rw [hR] at HR hST
  have HRW : Hid (w5.heap.size = R) := Lib.hid hR
  clear hi0 hz0 hz1 hz2 ho hg hrow hb6 hR
  have hwG : Hid (w.heap.size = G) := Lib.hid HS.out.sz
  go_wp2_with fail
  rw [HRW.out]
  clear hmk HRW
  go_loopw [13, 16, 17, 18, 19, 64] (fun _ _ _ _ _ i wr => ∃ k : Nat, k ≤ n ∧ i = .int .i64 k ∧ (∃ h' : Nat → Value, Hid (Row wr R (n * 3) 47 h') ∧ Hid (∀ q, q < k * 3 → h' q = tripAt U q)) ∧ Hid (Has wr S #[.int .i64 (Rn.at' dd M l k)] 3) ∧ Hid (Below S w4 wr) ∧ Hid (t.Sits w G wr)) (fun _ _ _ _ _ i _ => n - (intOf i).toNat)
  case atStart => exact ⟨0, Nat.zero_le _, rfl, ⟨h0, HR, Lib.hid fun q hq => absurd hq (by omega)⟩, Lib.hid (by rw [show Rn.at' dd M l 0 = 0 from Rn.g_zero M d0]; exact HT.out), HB4, HS⟩
  case round =>
    clear HR HT HB4 HS
    obtain ⟨k, hk, rfl, ⟨h', HR, HH'⟩, HT, HB4, HS⟩ := hrel
    by_cases hlt : k < n
    · obtain ⟨b1, o1, hA1, hbl1, hc1⟩ := (HNP.out.below HB4.out).get hlt
      simp only [Option.some.injEq, Addr.mk.injEq, and_true] at hA1
      obtain ⟨rfl, rfl⟩ := hA1
      rw [Nat.zero_add] at hc1
      have hb0 : 0 ≤ Rn.at' dd M l k ∧ Rn.at' dd M l k ≤ 17592186044416 := Rn.g_bound dd M _
      have hb1 : 0 ≤ Rn.at' dd M l (k + 1) ∧ Rn.at' dd M l (k + 1) ≤ 17592186044416 := Rn.g_bound dd M _
      have hp0 := (Rn.paid_bound (d := dd) (m := M) (l := l) (n := n) (fun j hj => (HSM.out.each j hj).1) hlt).1
      have hpe : Rn.paid dd M l k = Rn.at' dd M l (k + 1) - Rn.at' dd M l k := rfl
      have hyb := HHR.out k hlt
      have HUK := Lib.hid (HUS.out k)
      obtain ⟨s, hs⟩ : ∃ s, Rn.at' dd M l k = s := ⟨_, rfl⟩
      obtain ⟨v, hv⟩ : ∃ s, Rn.at' dd M l (k + 1) = s := ⟨_, rfl⟩
      obtain ⟨x, hx⟩ : ∃ s, Rn.paid dd M l k = s := ⟨_, rfl⟩
      obtain ⟨y, hy⟩ : ∃ s, h k = s := ⟨_, rfl⟩
      rw [hs] at hb0 hpe HUK HT
      rw [hv] at hb1 hpe HUK
      rw [hx] at hp0 hpe hc1
      rw [hy] at hyb HUK
      obtain ⟨s0, s1⟩ := hb0
      obtain ⟨v0, v1⟩ := hb1
      obtain ⟨y0, y1⟩ := hyb
      have hsv : s ≤ v := by omega
      have hsx : s + x = v := by omega
      have CU : Hid (∀ W, t.In W W.heap.size → Calls Try.prog 43 #[.agg t.cells, .int .i64 y, .int .i64 s, .int .i64 v] W (UsePost (t.use y s v) W)) := Lib.hid fun W hW => use_any t y s v W hW HX0.out y0 y1 s0 hsv v1
      obtain ⟨⟨ua, ub, uc⟩, hue⟩ : ∃ u, t.use y s v = u := ⟨_, rfl⟩
      rw [hue] at CU HUK
      have HVN : Hid (Rn.at' dd M l (k + 1) = v) := Lib.hid hv
      have HHY : Hid (h k = y) := Lib.hid hy
      have HSX : Hid (s + x = v) := Lib.hid hsx
      have hk0 : (0 : Int) ≤ k := by omega
      have hk1 : (k : Int) < n := by omega
      have hxm : x ≤ 17592186044416 := by omega
      clear hs hv hx hy hpe hsx hue
      go_wp2_with fail
      refine (running_step S s x _ HT.out s0 s1 hp0 hxm).mono ?_
      rintro e w6 ⟨rfl, nq, rfl⟩
      rw [HSX.out]
      have HT2 : Hid (Has ((wr.setCell ⟨S, 0, none⟩ (.int .i64 v)).drewN nq) S #[.int .i64 v] 3) := Lib.hid ((HT.out.put 0 (.int .i64 v)).drewN nq)
      have HB2 : Hid (Below S w4 ((wr.setCell ⟨S, 0, none⟩ (.int .i64 v)).drewN nq)) := Lib.hid (below_drewN (HB4.out.setCell (p := ⟨S, 0, none⟩) (Nat.le_refl S) (.int .i64 v)) nq)
      have HS2 : Hid (t.Sits w G ((wr.setCell ⟨S, 0, none⟩ (.int .i64 v)).drewN nq)) := Lib.hid ((HS.out.up ((Below.refl (G + 1) wr).setCell (p := ⟨S, 0, none⟩) (by simp only; omega) (.int .i64 v))).drewN nq)
      have HR2 : Hid (Row ((wr.setCell ⟨S, 0, none⟩ (.int .i64 v)).drewN nq) R (n * 3) 47 h') := Lib.hid ((HR.out.far (p := ⟨S, 0, none⟩) (by simp only; omega) (.int .i64 v)).drewN nq)
      obtain ⟨w7, hw7⟩ : ∃ W, (wr.setCell ⟨S, 0, none⟩ (.int .i64 v)).drewN nq = W := ⟨_, rfl⟩
      rw [hw7] at HT2 HB2 HS2 HR2 ⊢
      clear hw7 HT HB4 HS HR hc1
      go_upto_region 20 with (fail)
      obtain ⟨b2, o2, hA2, hbl2, hc2⟩ := ((HH.out.below HS2.out.out).mono HS2.out.le).get hlt
      rw [HHY.out] at hc2
      have hGl := HS2.out.lt
      have hb2 : b2 < w7.heap.size := hbl2
      subst hA2
      have hRl := HR2.out.lt
      have r0 := HR2.out.cell (k * 3) (by omega)
      have r1 := HR2.out.cell (k * 3 + 1) (by omega)
      have r2 := HR2.out.cell (k * 3 + 2) (by omega)
      have rf := HR2.out.free
      clear r0 r1 r2 rf
      have hy2 := hc2
      have HC2 := Lib.hid hc2
      clear hc2
      have box3 : ∀ W : World, t.Box W G → W.cell? ⟨b2, o2 + k, none⟩ = some (.int .i64 y) → (TyAt W (.pointer (some ⟨G, 0, none⟩)) ∧ tyCells W (.pointer (some ⟨G, 0, none⟩)) = t.cells ∧ W.cell? ⟨b2, o2 + k, none⟩ = some (.int .i64 y)) := fun W h1 h2 => ⟨(box_load h1).1, (box_load h1).2.1, h2⟩
      have HB3 := Lib.hid box3
      clear box3
      have hk3 : (0 : Int) ≤ (n : Int) := by omega
      have hRb : b2 < R := by
        obtain ⟨b3, o3, e3, hb3, _⟩ := HH.out.get hlt
        simp only [Option.some.injEq, Addr.mk.injEq, and_true] at e3
        have := hwG.out
        omega
      have H3 : Hid (∀ (W : World) (a b c : Nat) (x y z : Value), Below R W (((W.setCell ⟨R, a, none⟩ x).setCell ⟨R, b, none⟩ y).setCell ⟨R, c, none⟩ z)) := Lib.hid fun W a b c x y z => (((Below.refl R W).setCell (p := ⟨R, a, none⟩) (Nat.le_refl R) x).setCell (p := ⟨R, b, none⟩) (Nat.le_refl R) y).setCell (p := ⟨R, c, none⟩) (Nat.le_refl R) z
      have HGR : Hid (G < R) := Lib.hid (by omega)
      go_region_held3 (fun w' => TyAt w' (.pointer (some ⟨G, 0, none⟩)) ∧ tyCells w' (.pointer (some ⟨G, 0, none⟩)) = t.cells ∧ w'.cell? ⟨b2, o2 + k, none⟩ = some (.int .i64 y)) (first | exact HB3.out _ HS2.out.box HC2.out | exact HB3.out _ (HS2.out.box.below (H3.out _ _ _ _ _ _ _) HGR.out) (((H3.out _ _ _ _ _ _ _).cell (p := ⟨b2, o2 + k, none⟩) hRb).trans HC2.out)) (first
        | (go_at_call 43; refine (CU.out _ (HS2.out.drewN 1).inn).mono ?_; rintro e w8 ⟨rfl, hb⟩; have hlS := HT2.out.lt; replace HB2 := Lib.hid ((below_drewN HB2.out 1).trans (hb.mono (Nat.le_of_lt hlS))); replace HS2 := Lib.hid ((HS2.out.drewN 1).next hb); replace HT2 := Lib.hid (Has.below (HT2.out.drewN 1) hb HT2.out.lt); replace HR2 := Lib.hid (Row.below (HR2.out.drewN 1) hb HR2.out.lt); have hy3 := (hb.cell (p := ⟨b2, o2 + k, none⟩) hb2).trans hy2; replace HC2 := Lib.hid hy3; clear hb hy3; have r0 := HR2.out.cell (k * 3) (by omega); have r1 := HR2.out.cell (k * 3 + 1) (by omega); have r2 := HR2.out.cell (k * 3 + 2) (by omega); have rf := HR2.out.free; have rl := HR2.out.lt))
      all_goals
        have HT9 : Hid (Has (((w8.setCell ⟨R, k * 3, none⟩ (.int .i64 ua)).setCell ⟨R, k * 3 + 1, none⟩ (.int .i64 ub)).setCell ⟨R, k * 3 + 2, none⟩ (.int .i64 uc)) S #[.int .i64 (Rn.at' dd M l (k + 1))] 3) := Lib.hid (by rw [HVN.out]; exact HT2.out.below (H3.out _ _ _ _ _ _ _) hST)
        have HB9 := Lib.hid (HB2.out.trans ((H3.out w8 (k * 3) (k * 3 + 1) (k * 3 + 2) (.int .i64 ua) (.int .i64 ub) (.int .i64 uc)).mono (Nat.le_of_lt hST)))
        have HS9 := Lib.hid (HS2.out.up ((H3.out w8 (k * 3) (k * 3 + 1) (k * 3 + 2) (.int .i64 ua) (.int .i64 ub) (.int .i64 uc)).mono HGR.out))
        have HR9 := Lib.hid (((HR2.out.put (k * 3) (.int .i64 ua)).put (k * 3 + 1) (.int .i64 ub)).put (k * 3 + 2) (.int .i64 uc))
        have HH9 := Lib.hid (trips_step HH'.out HUK.out)
        clear r0 r1 r2 rf rl HR2 HS2 HT2 HB2 HC2 H3 HB3 hy2
        go_wp2_with fail
        go_roundw
        case rel => exact ⟨k + 1, by omega, by go_num, ⟨_, HR9, HH9⟩, HT9, HB9, HS9⟩
        case measure => simp [intOf]; omega
    · have hkn : n = k := by omega
      have hd : decide ((k : Int) < n) = false := by rw [decide_eq_false_iff_not]; omega
      have HH9 : Hid (∀ q, q < n * 3 → h' q = tripAt U q) := Lib.hid (by rw [hkn]; exact HH'.out)
      have hwR : w.heap.size ≤ R := by have := hwG.out; omega
      clear hkn HH'
      go_wp2_with fail
      go_ret2
      exact .inr ⟨HG.out, R, n, rfl, hwR, by rw [HUE.out]; exact HR.out.trips HH9.out, HS.out.out⟩
end Go.Proofs.Ytlmgfcgakdanaaa
