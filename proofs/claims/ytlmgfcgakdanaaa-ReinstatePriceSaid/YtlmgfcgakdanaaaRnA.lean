/- reinstate.check, Capacity, Price. -/
import Derived.Test.YtlmgfcgakdanaaaRnMath
import Derived.Test.YtlmgfcgakdanaaaTyE
import Derived.Test.YtlmgfcgakdanaaaShare
namespace Go.Proofs.Ytlmgfcgakdanaaa
open Go.RowKit
set_option linter.unusedVariables false

def PairPost (a : Int × Int) (w : World) (e : Ending) (w' : World) : Prop := e = .returned (.tuple #[.int .i64 a.1, .int .i64 a.2]) ∧ Below w.heap.size w w'
theorem ret_pair {a b c d : Int} (h : (a, b) = (c, d)) : Ending.returned (.tuple #[.int .i64 a, .int .i64 b]) = .returned (.tuple #[.int .i64 c, .int .i64 d]) := by
  injection h with h1 h2
  rw [h1, h2]

theorem Ty.xerr_bad {t : Ty} (h : t.err ≠ 0) : t.xerr = t.err := firstErr_stop h
theorem Ty.xerr_kind {t : Ty} (h : t.err = 0) (hk : t.kind ≠ 4 ∧ t.kind ≠ 5) : t.xerr = 11 := by
  unfold Ty.xerr
  rw [h, firstErr_go, if_neg (by omega), firstErr_stop (by omega)]
theorem Ty.xerr_fine {t : Ty} (h : t.err = 0) (hk : t.kind = 4 ∨ t.kind = 5) : t.xerr = 0 := by
  unfold Ty.xerr
  rw [h, firstErr_go, if_pos hk]
  rfl

set_option maxRecDepth 100000 in
set_option maxHeartbeats 2000000 in
theorem check_any (t : Ty) (w : World) (h : t.In w w.heap.size) : Calls Try.prog 33 #[.agg t.cells] w (IntPost t.xerr w) := by
  have HTI := Lib.hid ty_info
  obtain ⟨R, hR⟩ : ∃ R, t.err = R := ⟨_, rfl⟩
  obtain ⟨X, hX⟩ : ∃ X, t.xerr = X := ⟨_, rfl⟩
  have HF : Hid ((R ≠ 0 → R = X) ∧ (R = 0 → t.kind ≠ 4 ∧ t.kind ≠ 5 → 11 = X) ∧ (R = 0 → t.kind = 4 ∨ t.kind = 5 → 0 = X)) := Lib.hid (by
    rw [← hR, ← hX]
    exact ⟨fun h => (Ty.xerr_bad h).symm, fun h k => (Ty.xerr_kind h k).symm, fun h k => (Ty.xerr_fine h k).symm⟩)
  have C1 : Hid (∀ W, t.In W W.heap.size → Calls Try.prog 48 #[.agg t.cells] W (IntPost R W)) := Lib.hid fun W hW => by rw [← hR]; exact validate_any t W hW
  have HS := Lib.hid (Ty.Sits.new h)
  rw [hX]
  clear hR hX h
  go_enter Try.func33, Try.ntmps33
  go_upto_region 1 with (fail)
  obtain ⟨w1, hw1⟩ : ∃ w1, w.alloc (.cells t.cells 27) = w1 := ⟨_, rfl⟩; obtain ⟨G, hG⟩ : ∃ G, w.heap.size = G := ⟨_, rfl⟩; have HSZ : Hid (w1.heap.size = G + 1) := Lib.hid (by rw [← hw1, ← hG]; simp); rw [hw1, hG] at HS ⊢; clear hw1 hG
  go_wp2_with ((refine wpList_load_has ?_ 27 (.tmp 1) ?_ G ?_ _ t.cells _ HS.out.box Try.underlying27 ?_ HTI.out ?_; rfl; rfl; rfl; rfl))
  refine (C1.out _ HS.out.inn).mono ?_
  rintro e w2 ⟨rfl, hb⟩
  replace HS := Lib.hid (HS.out.next hb)
  clear hb C1
  by_cases hq : R = 0
  · subst hq
    have x1 : w2.cell? ⟨G, 1, none⟩ = some (.int .i64 t.kind) := HS.out.box.cell 1
    obtain ⟨k, hk⟩ : ∃ k, t.kind = k := ⟨_, rfl⟩
    rw [hk] at x1 HF
    clear hk
    by_cases h4 : k = 4
    · subst h4
      have HG : Hid (0 = X) := Lib.hid (HF.out.2.2 rfl (.inl rfl))
      clear HF
      go_wp2_with fail
      go_ret
      exact ⟨ret_i64 HG.out, HS.out.out⟩
    · have h41 : (k == 4) = false := by rw [beq_eq_false_iff_ne]; exact h4
      have h42 : (k != 4) = true := by simp [h4]
      by_cases h5 : k = 5
      · subst h5
        have HG : Hid (0 = X) := Lib.hid (HF.out.2.2 rfl (.inr rfl))
        clear HF h4 h41 h42
        go_wp2_with fail
        go_ret
        exact ⟨ret_i64 HG.out, HS.out.out⟩
      · have h51 : (k == 5) = false := by rw [beq_eq_false_iff_ne]; exact h5
        have h52 : (k != 5) = true := by simp [h5]
        have HG : Hid (11 = X) := Lib.hid (HF.out.2.1 rfl ⟨h4, h5⟩)
        clear HF h4 h5
        go_wp2_with fail
        go_ret
        exact ⟨ret_i64 HG.out, HS.out.out⟩
  · have HG : Hid (R = X) := Lib.hid (HF.out.1 hq)
    have hq1 : (R == 0) = false := by rw [beq_eq_false_iff_ne]; exact hq
    have hq2 : (R != 0) = true := by simp [hq]
    clear HF
    go_wp2_with fail
    go_ret
    exact ⟨ret_i64 HG.out, HS.out.out⟩

set_option maxRecDepth 100000 in
set_option maxHeartbeats 2000000 in
theorem capacity_any (t : Ty) (w : World) (h : t.In w w.heap.size) : Calls Try.prog 18 #[.agg t.cells] w (IntPost t.cap w) := by
  have HTI := Lib.hid ty_info
  obtain ⟨X, hX⟩ : ∃ X, t.cap = X := ⟨_, rfl⟩
  obtain ⟨n, hn⟩ : ∃ n, t.nre = n := ⟨_, rfl⟩
  obtain ⟨R, hR⟩ : ∃ R, t.xerr = R := ⟨_, rfl⟩
  obtain ⟨L, hL⟩ : ∃ L, t.lim = L := ⟨_, rfl⟩
  have hnl : n ≤ 9223372036854775807 := by rw [← hn]; exact h.lre
  have HF : Hid ((n = 0 → 0 = X) ∧ (R ≠ 0 → 0 = X) ∧ (R = 0 → n ≠ 0 → n ≤ 8 ∧ 1 ≤ L ∧ L ≤ 1073741824 ∧ (n + 1 : Int) * L = X)) := Lib.hid (by
    rw [← hX, ← hn, ← hR, ← hL]
    refine ⟨fun c => ?_, fun c => ?_, fun c d => ?_⟩
    · unfold Ty.cap Rn.cap
      rw [if_pos c]
      simp
    · unfold Ty.cap
      rw [if_neg c]
    · have h1 := (Ty.fine (Ty.xfine c).1).2.2.2.2.1
      have h2 := Ty.xspans c
      refine ⟨h1, h2.1.1, h2.1.2, ?_⟩
      unfold Ty.cap Rn.cap
      rw [if_pos c, if_neg d])
  have C1 : Hid (∀ W, t.In W W.heap.size → Calls Try.prog 33 #[.agg t.cells] W (IntPost R W)) := Lib.hid fun W hW => by rw [← hR]; exact check_any t W hW
  have HS := Lib.hid (Ty.Sits.new h)
  have HN := Lib.hid hn
  have HL := Lib.hid hL
  rw [hX]
  clear hX hn hR hL h
  go_enter Try.func18, Try.ntmps18
  go_upto_region 1 with (fail)
  obtain ⟨w1, hw1⟩ : ∃ w1, w.alloc (.cells t.cells 27) = w1 := ⟨_, rfl⟩; obtain ⟨G, hG⟩ : ∃ G, w.heap.size = G := ⟨_, rfl⟩; have HSZ : Hid (w1.heap.size = G + 1) := Lib.hid (by rw [← hw1, ← hG]; simp); rw [hw1, hG] at HS ⊢; clear hw1 hG
  have x16 : w1.cell? ⟨G, 16, none⟩ = some (.slice t.Are t.nre t.cre) := HS.out.box.cell 16
  rw [HN.out] at x16
  by_cases hz : n = 0
  · subst hz
    have HG : Hid (0 = X) := Lib.hid (HF.out.1 rfl)
    clear HF
    go_wp2_with fail
    go_ret
    exact ⟨ret_i64 HG.out, HS.out.out⟩
  · have hz1 : ((n : Int) == 0) = false := by rw [beq_eq_false_iff_ne]; omega
    have HNZ := Lib.hid hz
    clear hz
    go_wp2_with ((refine wpList_load_want ?_ 27 (.tmp 1) ?_ G ?_ _ t.cells _ HS.out.box Try.underlying27 ?_ HTI.out ?_; rfl; rfl; rfl; rfl))
    refine (C1.out _ HS.out.inn).mono ?_
    rintro e w2 ⟨rfl, hb⟩
    replace HS := Lib.hid (HS.out.next hb)
    clear hb C1 x16
    by_cases hq : R = 0
    · subst hq
      have x10 : w2.cell? ⟨G, 11, none⟩ = some (.int .i64 t.lim) := HS.out.box.cell 11
      rw [HL.out] at x10
      obtain ⟨h8, l0, l1, HG⟩ := HF.out.2.2 rfl HNZ.out
      have hp0 : (n + 1 : Int) * L ≤ 9 * 1073741824 := Int.mul_le_mul (by omega) l1 (by omega) (by omega)
      have hp1 : 0 ≤ (n + 1 : Int) * L := Int.mul_nonneg (by omega) (by omega)
      have hw : IntKind.i64.wrap ((n + 1 : Int) * L) = (n + 1 : Int) * L := by rw [IntKind.wrap_i64]; omega
      have HG' := Lib.hid HG
      clear HF HG hp0 hp1
      go_wp2_with fail
      go_ret
      exact ⟨ret_i64 HG'.out, HS.out.out⟩
    · have HG : Hid (0 = X) := Lib.hid (HF.out.2.1 hq)
      have hq1 : (R == 0) = false := by rw [beq_eq_false_iff_ne]; exact hq
      have hq2 : (R != 0) = true := by simp [hq]
      clear HF
      go_wp2_with fail
      go_ret
      exact ⟨ret_i64 HG.out, HS.out.out⟩

/-- what the reinstatements cost, or the error -/
def Ty.pr (t : Ty) (used : Int) : Int × Int := if t.xerr ≠ 0 then (0, t.xerr) else if ¬ (0 ≤ used ∧ used ≤ 17592186044416) then (0, 1) else (Rn.price t.prem t.lim t.fre t.nre used, 0)

set_option maxRecDepth 100000 in
set_option maxHeartbeats 4000000 in
theorem price_any (t : Ty) (used : Int) (w : World) (h : t.In w w.heap.size) : Calls Try.prog 16 #[.agg t.cells, .int .i64 used] w (PairPost (t.pr used) w) := by
  have HTI := Lib.hid ty_info
  obtain ⟨⟨X, Y⟩, hX⟩ : ∃ X, t.pr used = X := ⟨_, rfl⟩
  obtain ⟨n, hn⟩ : ∃ n, t.nre = n := ⟨_, rfl⟩
  obtain ⟨R, hR⟩ : ∃ R, t.xerr = R := ⟨_, rfl⟩
  obtain ⟨L, hL⟩ : ∃ L, t.lim = L := ⟨_, rfl⟩
  obtain ⟨P, hP⟩ : ∃ P, t.prem = P := ⟨_, rfl⟩
  have hnl : n ≤ 9223372036854775807 := by rw [← hn]; exact h.lre
  have HF : Hid ((R ≠ 0 → (0, R) = (X, Y)) ∧ (R = 0 → ¬ (0 ≤ used ∧ used ≤ 17592186044416) → (0, 1) = (X, Y)) ∧ (R = 0 → 0 ≤ used ∧ used ≤ 17592186044416 → Rn.Fit P L t.fre n ∧ (Rn.price P L t.fre n used, 0) = (X, Y))) := Lib.hid (by
    rw [← hX, ← hn, ← hR, ← hL, ← hP]
    refine ⟨fun c => ?_, fun c d => ?_, fun c d => ⟨Ty.fit c, ?_⟩⟩
    · unfold Ty.pr
      rw [if_pos c]
    · unfold Ty.pr
      rw [if_neg (fun h => h c), if_pos d]
    · unfold Ty.pr
      rw [if_neg (fun h => h c), if_neg (fun h => h d)])
  have C1 : Hid (∀ W, t.In W W.heap.size → Calls Try.prog 33 #[.agg t.cells] W (IntPost R W)) := Lib.hid fun W hW => by rw [← hR]; exact check_any t W hW
  have HS := Lib.hid (Ty.Sits.new h)
  have HN := Lib.hid hn
  have HL := Lib.hid hL
  have HP := Lib.hid hP
  rw [hX]
  clear hX hn hR hL hP h
  go_enter Try.func16, Try.ntmps16
  go_upto_region 1 with (fail)
  obtain ⟨w1, hw1⟩ : ∃ w1, w.alloc (.cells t.cells 27) = w1 := ⟨_, rfl⟩; obtain ⟨G, hG⟩ : ∃ G, w.heap.size = G := ⟨_, rfl⟩; have HSZ : Hid (w1.heap.size = G + 1) := Lib.hid (by rw [← hw1, ← hG]; simp); rw [hw1, hG] at HS ⊢; clear hw1 hG
  go_wp2_with ((refine wpList_load_has ?_ 27 (.tmp 2) ?_ G ?_ _ t.cells _ HS.out.box Try.underlying27 ?_ HTI.out ?_; rfl; rfl; rfl; rfl))
  refine (C1.out _ HS.out.inn).mono ?_
  rintro e w2 ⟨rfl, hb⟩
  replace HS := Lib.hid (HS.out.next hb)
  clear hb C1
  by_cases hq : R = 0
  rotate_left
  · have HG : Hid ((0, R) = (X, Y)) := Lib.hid (HF.out.1 hq)
    have hq1 : (R == 0) = false := by rw [beq_eq_false_iff_ne]; exact hq
    have hq2 : (R != 0) = true := by simp [hq]
    clear HF
    go_wp2_with fail
    go_ret2
    exact ⟨ret_pair HG.out, HS.out.out⟩
  subst hq
  have x16 : w2.cell? ⟨G, 16, none⟩ = some (.slice t.Are t.nre t.cre) := HS.out.box.cell 16
  rw [HN.out] at x16
  by_cases hu : 0 ≤ used ∧ used ≤ 17592186044416
  rotate_left
  · have HG : Hid ((0, 1) = (X, Y)) := Lib.hid (HF.out.2.1 rfl hu)
    have hv : Am.validB used = false ∨ used < 0 := by
      by_cases c : used < 0
      · exact .inr c
      · exact .inl ((Am.validB_false _).2 (by omega))
    clear HF
    rcases hv with hv | hv
    · by_cases c : used < 0
      · go_wp2_with (first | (go_at_call 34; refine (valid_any _ _).mono ?_; rintro e w' ⟨rfl, rfl⟩))
        go_ret2
        exact ⟨ret_pair HG.out, HS.out.out⟩
      · go_wp2_with (first | (go_at_call 34; refine (valid_any _ _).mono ?_; rintro e w' ⟨rfl, rfl⟩))
        go_ret2
        exact ⟨ret_pair HG.out, HS.out.out⟩
    · clear hu
      go_wp2_with (first | (go_at_call 34; refine (valid_any _ _).mono ?_; rintro e w' ⟨rfl, rfl⟩))
      go_ret2
      exact ⟨ret_pair HG.out, HS.out.out⟩
  obtain ⟨hfit, hprice⟩ := HF.out.2.2 rfl hu
  have HPR := Lib.hid hprice
  have HFI := Lib.hid hfit
  obtain ⟨u0, u1⟩ := hu
  have n8 := hfit.n8
  have hv : Am.validB used = true := (Am.validB_iff _).2 ⟨by omega, by omega⟩
  have hu0 : decide (used < 0) = false := by rw [decide_eq_false_iff_not]; omega
  clear HF hprice hfit
  go_wp2_with (first | (go_at_call 34; refine (valid_any _ _).mono ?_; rintro e w' ⟨rfl, rfl⟩))
  go_loopw [7, 8, 9, 10, 11, 12, 28] (fun s _ _ _ _ _ i wr => ∃ k : Nat, k ≤ n ∧ i = .int .i64 k ∧ s = .int .i64 (Rn.price P L t.fre k used) ∧ Hid (t.Sits w G wr)) (fun _ _ _ _ _ _ i _ => n - (intOf i).toNat)
  case atStart => exact ⟨0, Nat.zero_le _, rfl, rfl, HS⟩
  case round =>
    clear HS hv hu0
    obtain ⟨k, hk, rfl, rfl, HS⟩ := hrel
    by_cases hlt : k < n
    · obtain ⟨b, o, hA, hbl, hc0⟩ := HS.out.inn.re.get (j := k) (by rw [HN.out]; exact hlt)
      have HM1 := Lib.hid (Rn.full_md HFI.out hlt)
      have HM2 := Lib.hid (Rn.stp_md HFI.out hlt used)
      have hl0 := HFI.out.l0
      have hl1 := HFI.out.l1
      have hb1 := (Rn.full_md HFI.out hlt).2
      have hb2 := Rn.stp_bound HFI.out hlt used
      have hb3 := Rn.price_bound HFI.out used k hk
      have hb4 : Rn.price P L t.fre (k + 1) used = Rn.price P L t.fre k used + Rn.stp P L t.fre used k := rfl
      have hcl : min (max (used - k * L) 0) L = Rn.cl L used k := rfl
      obtain ⟨r, hr⟩ : ∃ r, t.fre k = r := ⟨_, rfl⟩
      obtain ⟨p, hp⟩ : ∃ p, Co.part P r = p := ⟨_, rfl⟩
      obtain ⟨c, hc⟩ : ∃ c, Rn.cl L used k = c := ⟨_, rfl⟩
      obtain ⟨s, hs⟩ : ∃ c, Rn.stp P L t.fre used k = c := ⟨_, rfl⟩
      obtain ⟨q, hq⟩ : ∃ c, Rn.price P L t.fre k used = c := ⟨_, rfl⟩
      rw [hr] at HM1 HM2 hc0 hb1
      rw [hp] at HM1 HM2 hb1
      rw [hc] at HM2 hcl
      rw [hs] at HM2 hb2 hb4
      rw [hq] at hb3 hb4 ⊢
      have HQ := Lib.hid hb4
      have C1 : Hid (∀ W, Calls Try.prog 35 #[.int .i64 P, .int .i64 r, .int .i64 4] W fun e w' => e = .returned (.tuple #[.int .i64 p, .int .i64 0]) ∧ ∃ n, w' = W.drewN n) := Lib.hid fun W => by
        have := share_any P r 4 W
        rw [HM1.out.1] at this
        exact this
      have C2 : Hid (∀ W, Calls Try.prog 36 #[.int .i64 p, .int .i64 c, .int .i64 L, .int .i64 4] W fun e w' => e = .returned (.tuple #[.int .i64 s, .int .i64 0]) ∧ ∃ n, w' = W.drewN n) := Lib.hid fun W => by
        have := muldiv_any p c L 4 W
        rw [HM2.out.1] at this
        exact this
      have hkl0 : 0 ≤ (k : Int) * L := Int.mul_nonneg (by omega) (by omega)
      have hkl1 : (k : Int) * L ≤ 8 * 1073741824 := Int.mul_le_mul (by omega) hl1 (by omega) (by omega)
      have hw1 : IntKind.i64.wrap ((k : Int) * L) = (k : Int) * L := by rw [IntKind.wrap_i64]; omega
      have hw2 : IntKind.i64.wrap (used - (k : Int) * L) = used - (k : Int) * L := by rw [IntKind.wrap_i64]; omega
      have HCL := Lib.hid hcl
      have x11 : wr.cell? ⟨G, 11, none⟩ = some (.int .i64 t.lim) := HS.out.box.cell 11
      have x15 : wr.cell? ⟨G, 15, none⟩ = some (.int .i64 t.prem) := HS.out.box.cell 15
      rw [HL.out] at x11
      rw [HP.out] at x15
      have hk0 : (0 : Int) ≤ k := by omega
      have hk1 : (k : Int) < n := by omega
      have hqs : 0 ≤ q + s ∧ q + s ≤ 100000000000 := by omega
      obtain ⟨hqs0, hqs1⟩ := hqs
      rw [hA]
      clear hr hp hc hs hq hA hcl hb4 HM1 HM2
      go_wp2_with ((go_at_call 35; refine (C1.out _).mono ?_; rintro e w' ⟨rfl, nq, rfl⟩))
      rw [HCL.out]
      refine (C2.out _).mono ?_
      rintro e w' ⟨rfl, nq2, rfl⟩
      go_wp2_with fail
      go_roundw
      case rel => exact ⟨k + 1, by omega, by go_num, by rw [HQ.out], Lib.hid (HS.out.drewN _)⟩
      case measure => simp [intOf]; omega
    · have hkn : n = k := by omega
      have HG : Hid ((Rn.price P L t.fre k used, 0) = (X, Y)) := Lib.hid (by rw [← hkn]; exact HPR.out)
      have hd : decide ((k : Int) < n) = false := by rw [decide_eq_false_iff_not]; omega
      clear hkn HPR HFI
      go_wp2_with fail
      go_ret2
      exact ⟨ret_pair HG.out, HS.out.out⟩
end Go.Proofs.Ytlmgfcgakdanaaa
