/- office.inform at the four postings of the example. -/
import Derived.Test.YtbeikfopneeodaaGreatMt35
namespace Go.Proofs.YtbeikfopneeodaaGreat
open Go.RowKit Go.Shelf
set_option linter.unusedVariables false
attribute [local go_sem] Oper.semAt_some
attribute [local go_sem ↓] exec_app

theorem poC_length (k : Nat) (hk : k < 4) : (poC k).length = 7 := by
  match k, hk with
  | 0, _ | 1, _ | 2, _ | 3, _ => rfl
  | n + 4, h => exact absurd h (by omega)
theorem own_ne_any {W : World} {base n x A : Nat} {v : Value} {xs : List Value} {cs : Array Value} {t : TypeId} (ht : t ≠ 101) (h : W.ownsRow base 101 7 v n xs) (hv : v.ownBlock = some x) (hA : Has W A cs t) : x ≠ A := fun e => by
  subst e
  rcases h.2 with ⟨h0, _⟩ | ⟨g, cap, cur, hg, _, hh, _⟩
  · rw [h0] at hv; cases hv
  · rw [hg] at hv
    injection hv with hv
    simp only at hv
    subst hv
    unfold Has at hA
    rw [hh] at hA
    injection hA with hA
    injection hA with _ hA _
    exact ht hA.symm
set_option maxRecDepth 100000 in
theorem po_info0 : (Tryz.prog.info? 101).map (·.size) = some 7 := by kernel_rfl
def poZ : Array Value := #[.int .i64 0, .int .i64 0, .int .i64 0, .int .i64 0, .int .i64 0, .int .i64 0, .int .i64 0]

set_option maxRecDepth 100000 in
set_option maxHeartbeats 4000000 in
theorem inform_aw (N O g cp : Nat) (cs : Array Value) (hc6 : cs[6]? = some (.int .i64 0)) (hc7 : cs[7]? = some (.slice (some ⟨g, 0, none⟩) 4 cp)) (hc8 : cs[8]? = some (.slice (some ⟨O, 0, none⟩) 16 16)) (w : World) (hN : Has w N cs 67) (hO : Has w O nil16 75) (hNO : N ≠ O) (hP : PoAt w g) (hg : g ≠ O) :
    Calls Tryz.prog 28 #[.pointer (some ⟨N, 0, none⟩), .int .i64 0] w fun e w' => e = .returned (.tuple #[]) ∧ Done O w.heap.size w' ∧ Leaves (fun k => k = O) w w' := by
  have HN := Lib.hid hN
  have HO := Lib.hid hO
  have HP0 := Lib.hid hP
  have HF : Hid (cs[6]? = some (.int .i64 0) ∧ cs[7]? = some (.slice (some ⟨g, 0, none⟩) 4 cp) ∧ cs[8]? = some (.slice (some ⟨O, 0, none⟩) 16 16) ∧ N ≠ O ∧ g ≠ O ∧ N < w.heap.size ∧ O < w.heap.size ∧ g < w.heap.size) := Lib.hid ⟨hc6, hc7, hc8, hNO, hg, hN.lt, hO.lt, hP.2⟩
  have n7 : w.cell? ⟨N, 7, none⟩ = some (.slice (some ⟨g, 0, none⟩) 4 cp) := (hN.cell 7).trans hc7
  have nl := hN.lt
  clear hN hO hP hc6 hc7 hc8 hNO hg
  refine (callsIn_wide (n := 5)).1 (callsIn_of_wp_marks Tryz.func28 rfl trivial (wpIn_wide.2 ?_) rfl)
  simp only [Tryz.ntmps28, List.size_toArray, List.length_cons, List.length_nil, Nat.reduceAdd, Nat.reduceSub, Array.replicate_succ, Array.replicate_zero, List.push_toArray, List.append_toArray, List.nil_append, List.cons_append]
  go_upto_region 2 with (fail)
  obtain ⟨v0, hv⟩ : ∃ W, (w.alloc (.cells #[.pointer (some ⟨N, 0, none⟩)] 92)).alloc (.cells (arr2 (.slice none 0 0) (.slice none 0 0)) 115) = W := ⟨_, rfl⟩
  have hb : Below w.heap.size w v0 := by rw [← hv]; exact (by (repeat' (first | (with_reducible exact Below.refl _ _) | (with_reducible refine Below.setCell ?_ ?_ _) | (with_reducible refine below_drewN ?_ _) | (with_reducible refine Below.drew ?_) | (with_reducible refine Below.alloc ?_ ?_ _))) <;> (first | omega | (simp <;> omega)))
  have HX2 : Hid (Has v0 w.heap.size #[.pointer (some ⟨N, 0, none⟩)] 92) := Lib.hid (by rw [← hv]; exact (Has.new _ _ _).alloc _)
  have HAR : Hid (Has v0 (w.heap.size + 1) (arr2 (.slice none 0 0) (.slice none 0 0)) 115) := Lib.hid (by rw [← hv]; exact Has.new' _ _ _ _ (by simp))
  have HZ : Hid (v0.heap.size = w.heap.size + 2) := Lib.hid (by rw [← hv]; simp)
  unfold arr2 at hv
  rw [hv]
  clear hv n7 nl
  obtain ⟨X2, hX⟩ : ∃ Q, w.heap.size = Q := ⟨_, rfl⟩
  obtain ⟨AR, hA⟩ : ∃ Q, w.heap.size + 1 = Q := ⟨_, rfl⟩
  have HNN : Hid (w.heap.size = X2 ∧ AR = X2 + 1 ∧ X2 + 2 ≤ v0.heap.size) := Lib.hid (by have := HZ.out; omega)
  rw [hA] at HAR ⊢
  rw [hX] at HX2 ⊢
  clear hX hA HZ
  have x2 : v0.cell? ⟨X2, 0, none⟩ = some (.pointer (some ⟨N, 0, none⟩)) := HX2.out.cell 0
  have n7 : v0.cell? ⟨N, 7, none⟩ = some (.slice (some ⟨g, 0, none⟩) 4 cp) := ((HN.out.below hb HN.out.lt).cell 7).trans HF.out.2.1
  have HST : Hid (Below w.heap.size w v0 ∧ Has v0 X2 #[.pointer (some ⟨N, 0, none⟩)] 92 ∧ LR w.heap.size AR 0 v0) := Lib.hid ⟨hb, HX2.out, LR.zero HAR.out⟩
  clear hb HX2 HAR
  go_wp2_with fail
  clear x2 n7
  go_loopw [17] (fun i wr => ∃ k : Nat, k ≤ 4 ∧ i = .int .i64 k ∧ Hid (Below w.heap.size w wr ∧ Has wr X2 #[.pointer (some ⟨N, 0, none⟩)] 92 ∧ LR w.heap.size AR k wr)) (fun i _ => 4 - (intOf i).toNat)
  case atStart => exact ⟨0, by omega, rfl, HST⟩
  case round =>
    clear HST
    obtain ⟨k, hk, rfl, HST⟩ := hrel
    by_cases hlt : k < 4
    · obtain ⟨hB, hX, hL⟩ := HST.out
      obtain ⟨v, n, xs, hcell, hrow, hn, hvA, hnext⟩ := hL.next hlt
      obtain ⟨q0, q1, q2, q3, q5, q6, hC⟩ := poC_form k hlt
      obtain ⟨a9, b9, hA9, _, _, _⟩ := hL
      have HAH := Lib.hid hA9
      have HRG : Hid (wr.rangeAt g (k * 7) (poC k)) := Lib.hid (poAt_range (HP0.out.below hB) k hlt)
      have hp : pt k < 16 := by unfold pt; split <;> omega
      obtain ⟨p, hpe⟩ : ∃ p, pt k = p := ⟨_, rfl⟩
      rw [hpe] at hC hcell hp hnext
      rw [hC] at hnext
      have hrg := HRG.out
      rw [hC] at hrg
      have HRG2 := Lib.hid hrg
      have HNX := Lib.hid hnext
      have HVA := Lib.hid hvA
      have HRW := Lib.hid hrow
      have HBX := Lib.hid (And.intro hB (And.intro hX hn))
      have HCE := Lib.hid hcell
      have HAL : Hid (AR < wr.heap.size) := Lib.hid (cell_lt hcell)
      have HI7 : Hid ((Tryz.prog.info? 101).map (·.size) = some [Value.int .i64 q0, .int .i64 q1, .int .i64 q2, .int .i64 q3, .int .i64 (p : Int), .int .i64 q5, .int .i64 q6].length) := Lib.hid po_info0
      have HI8 : Hid ((Tryz.prog.info? 101).map (·.size) = some #[Value.int .i64 q0, .int .i64 q1, .int .i64 q2, .int .i64 q3, .int .i64 (p : Int), .int .i64 q5, .int .i64 q6].size) := Lib.hid po_info0
      clear hB hX hcell hrow hn hvA hnext hC hpe hrg HRG hA9
      have hki : (k : Int) < 4 := by omega
      have hk0 : (0 : Int) ≤ k := by omega
      go_upto_region 5 with (first
        | (refine wpList_load_mid ?_ 101 (.tmp 19) ?_ g (k * 7) ?_ _ _ HRG2.out Tryz.underlying101 ?_ HI7.out ?_; rfl; rfl; rfl; rfl)
        | (refine wpList_store_has ?_ 101 (.tmp 6) (.tmp 20) ?_ wr.heap.size ?_ #[.int .i64 q0, .int .i64 q1, .int .i64 q2, .int .i64 q3, .int .i64 (p : Int), .int .i64 q5, .int .i64 q6] ?_ _ _ (Has.new' wr wr.heap.size poZ _ rfl) HI8.out ?_ ?_ ?_; rfl; rfl; rfl; rfl; rfl; rfl; intro u hh hl))
      have hbu : Below wr.heap.size wr u := ((Below.refl _ _).alloc (Nat.le_refl _) _).trans (hl.below (fun j (hj : j = wr.heap.size) => by omega) (by simp))
      obtain ⟨R, c, W1, hok, hav, haw, hown, hlv, hat, hcr⟩ := app_round (base := w.heap.size) [Value.int .i64 q0, .int .i64 q1, .int .i64 q2, .int .i64 q3, .int .i64 (p : Int), .int .i64 q5, .int .i64 q6] rfl (by simp [Value.oneCell']) v n xs (own_below HRW.out hbu) HBX.out.2.2 (Nat.le_trans HBX.out.1.size hbu.size)
      have HNEW := Lib.hid (HNX.out u W1 R c hbu hlv hown hat)
      have hAu := HAH.out.below hbu HAH.out.lt
      have hA1 := hAu.leaves hlv (fun hc => HVA.out _ hc rfl)
      have hGv : ¬ v.ownBlock = some wr.heap.size := fun hc => by have := (own_lt HRW.out hc).1; omega
      have hX1 := (HBX.out.2.1.below hbu HBX.out.2.1.lt).leaves hlv (fun hc => own_ne_any (by decide) HRW.out hc HBX.out.2.1 rfl)
      have hBW : Below w.heap.size w W1 := HBX.out.1.trans ((hbu.mono HBX.out.1.size).trans (hlv.below (fun j hj => (own_lt HRW.out hj).2) (Nat.le_trans HBX.out.1.size hbu.size)))
      have HEND : Hid (Below w.heap.size w W1 ∧ Has W1 X2 #[.pointer (some ⟨N, 0, none⟩)] 92) := Lib.hid ⟨hBW, hX1⟩
      obtain ⟨G, hG⟩ : ∃ G, wr.heap.size = G := ⟨_, rfl⟩
      rw [hG] at hh hGv ⊢
      have b0 : u.cell? ⟨G, 0, none⟩ = some (.int .i64 q0) := hh.cell 0
      have b1 : u.cell? ⟨G, 1, none⟩ = some (.int .i64 q1) := hh.cell 1
      have b2 : u.cell? ⟨G, 2, none⟩ = some (.int .i64 q2) := hh.cell 2
      have b3 : u.cell? ⟨G, 3, none⟩ = some (.int .i64 q3) := hh.cell 3
      have b4 : u.cell? ⟨G, 4, none⟩ = some (.int .i64 p) := hh.cell 4
      have b5 : u.cell? ⟨G, 5, none⟩ = some (.int .i64 q5) := hh.cell 5
      have b6 : u.cell? ⟨G, 6, none⟩ = some (.int .i64 q6) := hh.cell 6
      have bl := hh.lt
      have b4' : W1.cell? ⟨G, 4, none⟩ = some (.int .i64 p) := (hh.leaves hlv hGv).cell 4
      have ap : u.cell? ⟨AR, p, none⟩ = some v := (hbu.cell (p := ⟨AR, p, none⟩) HAL.out).trans HCE.out
      have al := hAu.lt
      have ap' : W1.cell? ⟨AR, p, none⟩ = some v := (cell_leaves hlv hAu.lt (fun hc => HVA.out _ hc rfl)).trans ap
      have af' : W1.frozen? ⟨AR, p, none⟩ = false := hA1.free _
      have al' := hA1.lt
      have hp16 : (p : Int) < 16 := by omega
      have hp0 : (0 : Int) ≤ p := by omega
      clear hh hl hbu hown hlv hat hcr hAu hA1 hGv hX1 hBW hG HNX HRW HBX HAH HRG2 HVA HAL HCE HI7 HI8 hki hk0
      simp only [Act.put]
      go_region
      have HEND2 : Hid (Below w.heap.size w (W1.setCell ⟨AR, p, none⟩ (.slice (some ⟨R, 0, none⟩) (n + 1) c)) ∧ Has (W1.setCell ⟨AR, p, none⟩ (.slice (some ⟨R, 0, none⟩) (n + 1) c)) X2 #[.pointer (some ⟨N, 0, none⟩)] 92 ∧ LR w.heap.size AR (k + 1) (W1.setCell ⟨AR, p, none⟩ (.slice (some ⟨R, 0, none⟩) (n + 1) c))) := Lib.hid ⟨HEND.out.1.setCell (p := ⟨AR, p, none⟩) (by have := HNN.out; show w.heap.size ≤ AR; omega) _, HEND.out.2.far (by have := HNN.out; show X2 ≠ AR; omega) _, HNEW.out⟩
      clear hok hav haw b0 b1 b2 b3 b4 b5 b6 bl b4' ap al ap' af' al' hp16 hp0 HEND HNEW HST
      have hki : (k : Int) < 4 := by omega
      have hk0 : (0 : Int) ≤ k := by omega
      go_wp2_with fail
      go_roundw
      case rel => exact ⟨k + 1, by omega, by go_num, HEND2⟩
      case measure => simp [intOf]; omega
    · obtain rfl : k = 4 := by omega
      obtain ⟨hB, hX, hL⟩ := HST.out
      obtain ⟨a9, R, c, hA, hR, hc2, hbR, hRl, hRA⟩ := hL.four
      have HB := Lib.hid hB
      have HX := Lib.hid hX
      have HA := Lib.hid hA
      have HR := Lib.hid hR
      have HRN : Hid (2 ≤ c ∧ w.heap.size ≤ R ∧ R < wr.heap.size ∧ AR < wr.heap.size ∧ R ≠ AR) := Lib.hid ⟨hc2, hbR, hRl, hA.lt, hRA⟩
      clear hB hX hL hA hR hc2 hbR hRl hRA HST
      go_wp2_with fail
      have hb1 : Below wr.heap.size wr (wr.alloc (.cells #[.int .i64 1] 3)) := (Below.refl _ _).alloc (Nat.le_refl _) _
      have hbx : Has (wr.alloc (.cells #[.int .i64 1] 3)) wr.heap.size #[.int .i64 1] 3 := Has.new _ _ _
      have HBL := Lib.hid (HB.out.trans (hb1.mono HB.out.size))
      have HBX1 := Lib.hid hbx
      have HWS : Hid ((wr.alloc (.cells #[.int .i64 1] 3)).heap.size = wr.heap.size + 1) := Lib.hid (by simp)
      replace HX := Lib.hid (HX.out.below hb1 HX.out.lt)
      replace HA := Lib.hid (HA.out.below hb1 HA.out.lt)
      replace HR := Lib.hid ((HR.out.below hb1).mono hb1.size)
      have HO1 := Lib.hid (HO.out.below HBL.out HO.out.lt)
      have HN1 := Lib.hid (HN.out.below HBL.out HN.out.lt)
      obtain ⟨W0, hW⟩ : ∃ W, wr.alloc (.cells #[.int .i64 1] 3) = W := ⟨_, rfl⟩
      obtain ⟨nn, hnn⟩ : ∃ Q, wr.heap.size = Q := ⟨_, rfl⟩
      rw [hW] at HX HA HR HBL HBX1 HO1 HN1 HWS ⊢
      rw [hnn] at HBX1 HRN HWS ⊢
      have HIN : Hid (w.heap.size = X2 ∧ AR = X2 + 1 ∧ X2 + 2 ≤ nn ∧ W0.heap.size = nn + 1 ∧ N < w.heap.size ∧ O < w.heap.size ∧ N ≠ O ∧ 2 ≤ c ∧ w.heap.size ≤ R ∧ R < nn ∧ R ≠ AR) := Lib.hid (by
        have h1 := HNN.out
        have h2 := HF.out
        have h3 := HRN.out
        have h4 := HWS.out
        have h5 := HB.out.size
        have h6 := HA.out.lt
        refine ⟨by omega, by omega, by omega, by omega, by omega, by omega, h2.2.2.2.1, by omega, by omega, by omega, h3.2.2.2.2⟩)
      clear hb1 hbx hW hnn HRN HWS HB HNN
      refine wp_loop_ghost_k (InfI w.heap.size N X2 AR O nn W0) 15 ⟨1, nn, [], ⟨rfl, by omega⟩, ⟨Nat.le_refl _, HBX1.out, ⟨by simp, by simp⟩, Leaves.refl _ _, fun _ => HO1.out, fun h => by omega⟩, _, _, _, _, _, _, _, _, _, _, _, _, _, _, _, _, _, _, _, _, _, _, _, _, _, _, _, _, _, _, _, _, _, _, _, _, _, _, _, _, _, _, _, _, rfl⟩ ?_
      intro m a V hI J K hJ hK
      obtain ⟨k, b, Ds, ⟨hkm, hk1⟩, hS, x1, x3, x5, x6, x8, x9, x10, x11, x12, x13, x14, x15, x16, x17, x18, x19, x20, x21, x22, x23, x24, x25, x26, x27, x28, x29, x30, x31, x32, x33, x34, x35, x36, x37, x38, x39, x40, x41, x42, x43, x44, x45, x46, x47, rfl⟩ := hI
      have HS := Lib.hid hS
      have HKM : Hid (k + m = 16 ∧ 1 ≤ k) := Lib.hid ⟨hkm, hk1⟩
      have HJ := Lib.hid hJ
      have b0 : V.cell? ⟨b, 0, none⟩ = some (.int .i64 k) := hS.box.cell 0
      have bl := hS.box.lt
      have hk0 : (0 : Int) ≤ k := by omega
      clear hS hJ hkm HBX1 HO1
      by_cases h16 : k = 16
      · subst h16
        have b1 : V.cell? ⟨b, 0, none⟩ = some (.int .i64 16) := b0
        clear b0
        go_wp2_with fail
        refine leaves_marks (n₀ := nn) Ds V HS.out.marks (fun W' hb hc => ⟨.tuple #[], results_none rfl _ _ _, rfl, (HS.out.hi (by omega)).cells hb.size hc, ?_⟩)
        have hkv : Leaves (fun k => k = O) w V := (leaves_of (T := fun k => k = O) HBL.out).trans' HS.out.kp (fun i hi hT => hT.resolve_right (by have := HIN.out; omega))
        have hbv : Leaves (fun k => nn ≤ k) V W' := ⟨hb.os, hb.tape, hb.output, hb.size, fun k hk hn => hb.block k (by omega)⟩
        exact hkv.trans' hbv (fun i hi hT => absurd hT (by have := HIN.out; omega))
      by_cases h2 : k = 2
      · subst h2
        have b1 : V.cell? ⟨b, 0, none⟩ = some (.int .i64 2) := b0
        have ha : V.cell? ⟨AR, 2, none⟩ = some (.slice (some ⟨R, 0, none⟩) 2 c) := by
          refine (cell_leaves HS.out.kp HA.out.lt (by have := HIN.out; show ¬ (AR = O ∨ nn ≤ AR); omega)).trans ?_
          exact HA.out.cell 2
        have al : AR < V.heap.size := Nat.lt_of_lt_of_le HA.out.lt HS.out.kp.size
        clear h16 hk1 b0 hk0
        go_wp2_with fail
        refine (chunk_aw (.slice none 0 0) 2 (some ⟨R, 0, none⟩) c _).mono ?_
        rintro e W1 ⟨rfl, hW1⟩
        have hb1 : Below V.heap.size V W1 := by rw [hW1]; exact (by (repeat' (first | (with_reducible exact Below.refl _ _) | (with_reducible refine Below.setCell ?_ ?_ _) | (with_reducible refine below_drewN ?_ _) | (with_reducible refine Below.drew ?_) | (with_reducible refine Below.alloc ?_ ?_ _))) <;> (first | omega | (simp <;> omega)))
        have hc1 : W1.cell? ⟨V.heap.size, 0, none⟩ = some (.slice (some ⟨R, 0, none⟩) 2 c) := by rw [hW1]; exact ((Has.new V #[.slice (some ⟨R, 0, none⟩) 2 c] 62).alloc _).cell 0
        have hc2 : W1.cell? ⟨V.heap.size + 1, 0, none⟩ = some (.int .i64 64) := by rw [hW1]; exact (Has.new' _ _ #[.int .i64 64] 3 (by simp)).cell 0
        have hv1 : V.heap.size + 2 ≤ W1.heap.size := by rw [hW1]; simp
        clear hW1
        have HB1 := Lib.hid hb1
        have HC1 := Lib.hid (And.intro hc1 (And.intro hc2 hv1))
        obtain ⟨vz, hvz⟩ : ∃ Q, V.heap.size = Q := ⟨_, rfl⟩
        rw [hvz] at HC1 ⊢
        have HVZ : Hid (V.heap.size = vz ∧ nn < vz) := Lib.hid ⟨hvz, by have := HS.out.kp.size; have := HIN.out; omega⟩
        clear hb1 hc1 hc2 hv1 b1 ha hvz al
        go_wp2_with fail
        refine (wpIn_wide (n := 5)).1 ?_
        refine wpIn_rangeFunc_ownH rfl (by omega) (gf := 74) (lb := #[.pointer (some ⟨vz, 0, none⟩), .pointer (some ⟨vz + 1, 0, none⟩)]) rfl trivial (enters_of Tryz.func74 (by kernel_rfl) rfl)
          (chunk1_two 4 (by omega) vz (vz + 1) R c O W1.heap.size (by have := HIN.out; omega) W1 (by have h1 := HC1.out.2.2; have h2 := HIN.out; have h3 := HVZ.out; exact ⟨by omega, by omega, by omega, by omega⟩) (Nat.le_refl _) HC1.out.1 HC1.out.2.1) (fun h k => Leaves.trans h k)
          (fun W l o o' hl h _ _ => Leaves.grown (Leaves.refl _ W) (grownBy_putObj' W l o') (fun k e => by cases e; exact .inl (.inr hl))) (Below.refl _ _) (fun _ => rfl)
          (fun pre W => KpO O W1.heap.size W1 W ∧ ((pre = [] → Has W O nil16 75) ∧ (pre ≠ [] → Done O w.heap.size W))) (fun _ _ _ => False)
          (OwnFrom.and (ownFrom_kp (Nat.le_refl _)) (fun s W W' row h hg hr => ⟨fun e => ownFrom_has (β := Unit) () W W' row (h.1 e) hg hr, fun e => ownFrom_done (β := Unit) () W W' row (h.2 e) hg hr⟩)) (fun c s W W' row h _ _ => h.elim)
          ⟨Leaves.refl _ _, fun _ => (HS.out.lo (by omega)).below HB1.out (HS.out.lo (by omega)).lt, fun h => absurd rfl h⟩
          (fun x a' W => ∃ y1 y3 y5 y6 y9 y10 y11 y12 y13 y14 y15 y16 y17 y18 y19 y20 y21 y22 y23 y24 y25 y26 y27 y28 y29 y30 y31 y32 y33 y34 y35 y36 y37 y38 y39 y40 y41 y43 y44 y45 y46 y47 : Value, a' = { tmps := #[.pointer (some ⟨N, 0, none⟩), y1, .pointer (some ⟨X2, 0, none⟩), y3, .pointer (some ⟨AR, 0, none⟩), y5, y6, .pointer (some ⟨b, 0, none⟩), .slice (some ⟨R, 0, none⟩) 2 2, y9, y10, y11, y12, y13, y14, y15, y16, y17, y18, y19, y20, y21, y22, y23, y24, y25, y26, y27, y28, y29, y30, y31, y32, y33, y34, y35, y36, y37, y38, y39, y40, y41, .slice (some ⟨R, 0, none⟩) 2 2, y43, y44, y45, y46, y47], defers := [] }) (fun x a' s W W' row h _ _ => h) ?assign2 ?body2 ?done2 ?stop2
        case assign2 =>
          rintro l pre x W K2 hI2 hK2
          gi_wp2
          exact hK2 _ _ (KeepsFrom.refl _ _) (Leaves.refl _ _) hI2 ⟨_, _, _, _, _, _, _, _, _, _, _, _, _, _, _, _, _, _, _, _, _, _, _, _, _, _, _, _, _, _, _, _, _, _, _, _, _, _, _, _, _, _, rfl⟩
        case body2 =>
          rintro l pre x a' W hl hlo ⟨hkp, hpre, _⟩ ⟨y1, y3, y5, y6, y9, y10, y11, y12, y13, y14, y15, y16, y17, y18, y19, y20, y21, y22, y23, y24, y25, y26, y27, y28, y29, y30, y31, y32, y33, y34, y35, y36, y37, y38, y39, y40, y41, y43, y44, y45, y46, y47, rfl⟩ hlt
          obtain rfl : pre = [] := by cases pre with
            | nil => rfl
            | cons a b => simp at hlt
          have hOW := hpre rfl
          have hbb : Leaves (fun k => k = O ∨ nn ≤ k) W0 W := (HS.out.kp.trans (leaves_of HB1.out)).trans' hkp (fun i hi hT => hT.imp id (fun h => by have := HVZ.out; have := HB1.out.size; omega))
          have x2 : W.cell? ⟨X2, 0, none⟩ = some (.pointer (some ⟨N, 0, none⟩)) := (HX.out.leaves hbb (by have := HIN.out; show ¬ (X2 = O ∨ nn ≤ X2); omega)).cell 0
          have b1 : W.cell? ⟨b, 0, none⟩ = some (.int .i64 2) := ((HS.out.box.below HB1.out HS.out.box.lt).leaves hkp (by have h1 := HS.out.bn; have h2 := HIN.out; have h3 := HS.out.box.lt; have h4 := HB1.out.size; show ¬ (b = O ∨ W1.heap.size ≤ b); omega)).cell 0
          have hN9 : Has W N cs 67 := HN1.out.leaves hbb (by have := HIN.out; show ¬ (N = O ∨ nn ≤ N); omega)
          have hR9 : Cells W W.heap.size (some ⟨R, 0, none⟩) (2 * 7) (fun j => poR[j]!) := Cells.leaves HR.out hbb (fun ad e => by injection e with e; subst e; have := HIN.out; show ¬ (R = O ∨ nn ≤ R); omega)
          have CW := Lib.hid (write_aw N O R 2 cs HF.out.1 HF.out.2.2.1 W hN9 hOW HF.out.2.2.2.1 hR9)
          have HKP := Lib.hid hkp
          have HWZ : Hid (O < W1.heap.size ∧ w.heap.size ≤ W.heap.size) := Lib.hid (by have := HIN.out; have := HVZ.out; have := HC1.out.2.2; have := hkp.size; omega)
          clear hkp hpre hOW hbb hN9 hR9 hlt hlo hl
          gi_wp2
          refine ⟨trivial, ((callsIn_wide.2 CW.out).inRound l).mono ?_⟩
          rintro e W3 ⟨B9, cb9, C9, cc9, rfl, h1, h2, h3, h4⟩
          have HE9 : Hid (KeepsFrom W1.heap.size W W3 ∧ KpO O W1.heap.size W W3 ∧ KpO O W1.heap.size W1 W3 ∧ Done O w.heap.size W3) := Lib.hid ⟨⟨h4.size, fun k o hk ho _ => (h4.block k (heap_lt ho) (by have := HWZ.out; show ¬ k = O; omega)).trans ho⟩, h4.mono (fun k hk => .inl hk), HKP.out.trans (h4.mono (fun k hk => .inl hk)), ⟨B9, cb9, C9, cc9, h1, h2, by have := HWZ.out; omega, h3.2⟩⟩
          clear h1 h2 h3 h4 x2 b1 CW
          gi_wp2
          exact ⟨HE9.out.1, HE9.out.2.1, HE9.out.2.2.1, fun h => by simp at h, fun _ => HE9.out.2.2.2⟩
        case stop2 =>
          rintro D cd pre W hD _ h _
          exact h.elim
        case done2 =>
          rintro D ys V2 hD rfl ⟨hkp, _, hdn⟩ hd
          have HKP := Lib.hid hkp
          have HDN := Lib.hid (hdn (by simp))
          have HD := Lib.hid (And.intro hD hd)
          have hbW : Has V2 b #[.int .i64 ((2 : Nat) : Int)] 3 := (HS.out.box.below HB1.out HS.out.box.lt).leaves hkp (by have h1 := HS.out.bn; have h2 := HIN.out; have h3 := HS.out.box.lt; have h4 := HB1.out.size; show ¬ (b = O ∨ W1.heap.size ≤ b); omega)
          have b1 : V2.cell? ⟨b, 0, none⟩ = some (.int .i64 2) := hbW.cell 0
          have bl2 : b < V2.heap.size := hbW.lt
          clear hD hkp hdn hd hbW
          have hkw : IntKind.i64.wrap (2 + 1) = 3 := by decide
          go_wp2_with fail
          refine Handed.intro (m - 1) (by have := HKM.out; omega) (HJ.out _ _ _ ⟨2 + 1, V2.heap.size, D :: Ds, ⟨by have := HKM.out; omega, by omega⟩, ?_, _, _, _, _, _, _, _, _, _, _, _, _, _, _, _, _, _, _, _, _, _, _, _, _, _, _, _, _, _, _, _, _, _, _, _, _, _, _, _, _, _, _, _, _, rfl⟩)
          have hV3 : Below V2.heap.size V2 (V2.alloc (.cells #[.int .i64 3] 3)) := (Below.refl _ _).alloc (Nat.le_refl _) _
          have hm1 := HS.out.marks.leaves (leaves_of (T := fun _ => False) HB1.out) (fun k _ _ => id)
          have hm2 := hm1.leaves HKP.out (fun k hk hk2 => by have := HIN.out; show ¬ (k = O ∨ W1.heap.size ≤ k); omega)
          have hm3 := hm2.leaves (leaves_of (T := fun _ => False) hV3) (fun k _ _ => id)
          have hmk : Marks nn (D :: Ds) (V2.alloc (.cells #[.int .i64 3] 3)) := Marks.cons hm3 (n₁ := W1.heap.size) (fun E hE => heap_lt (hm1.2 E hE).2) HD.out.1 (by have := HIN.out; have := HB1.out.size; have := HVZ.out; omega) ((hV3.block D (heap_lt HD.out.2)).trans HD.out.2)
          have hkp0 : KpO O nn W0 (V2.alloc (.cells #[.int .i64 3] 3)) := ((HS.out.kp.trans (leaves_of HB1.out)).trans' HKP.out (fun i hi hT => hT.imp id (fun h => by have := HVZ.out; have := HB1.out.size; omega))).trans (leaves_of hV3)
          exact ⟨by have := HKP.out.size; have := HB1.out.size; have := HVZ.out; omega, Has.new _ _ _, hmk, hkp0, fun h => by omega, fun _ => HDN.out.below hV3⟩
      have hk15 : (k : Int) ≤ 15 := by have := HKM.out; omega
      have hk16 : (k : Int) < 16 := by have := HKM.out; omega
      have ha : V.cell? ⟨AR, k, none⟩ = some (.slice none 0 0) := by
        refine (cell_leaves HS.out.kp HA.out.lt (by have := HIN.out; show ¬ (AR = O ∨ nn ≤ AR); omega)).trans ?_
        exact (HA.out.cell k).trans (arr2_at hk1 (by omega) h2)
      have al : AR < V.heap.size := Nat.lt_of_lt_of_le HA.out.lt HS.out.kp.size
      clear h16 hk1
      go_wp2_with fail
      refine (chunk_aw (.slice none 0 0) 0 none 0 _).mono ?_
      rintro e W1 ⟨rfl, hW1⟩
      have hb1 : Below V.heap.size V W1 := by rw [hW1]; exact (by (repeat' (first | (with_reducible exact Below.refl _ _) | (with_reducible refine Below.setCell ?_ ?_ _) | (with_reducible refine below_drewN ?_ _) | (with_reducible refine Below.drew ?_) | (with_reducible refine Below.alloc ?_ ?_ _))) <;> (first | omega | (simp <;> omega)))
      have hc1 : W1.cell? ⟨V.heap.size, 0, none⟩ = some (.slice none 0 0) := by rw [hW1]; exact ((Has.new V #[.slice none 0 0] 62).alloc _).cell 0
      have hv1 : V.heap.size + 2 ≤ W1.heap.size := by rw [hW1]; simp
      clear hW1
      have HB1 := Lib.hid hb1
      have HC1 := Lib.hid (And.intro hc1 hv1)
      obtain ⟨vz, hvz⟩ : ∃ Q, V.heap.size = Q := ⟨_, rfl⟩
      rw [hvz] at HC1 ⊢
      have HVZ := Lib.hid hvz
      clear hb1 hc1 hv1 b0 ha hvz
      go_wp2_with fail
      refine (wpIn_wide (n := 5)).1 ?_
      refine wpIn_rangeFunc_ownH rfl (by omega) (gf := 74) (lb := #[.pointer (some ⟨vz, 0, none⟩), .pointer (some ⟨vz + 1, 0, none⟩)]) rfl trivial (enters_of Tryz.func74 (by kernel_rfl) rfl)
        (chunk1_nil 4 vz (vz + 1) W1.heap.size (fun (_ : Unit) => #[.slice none 0 0]) (Below W1.heap.size) W1 (by have := HC1.out.2; omega) (Nat.le_refl _) HC1.out.1) belowK_t (belowK_b (Nat.le_refl _)) (Below.refl _ _) (fun _ => rfl)
        (fun pre W => Below W1.heap.size W1 W) (fun _ _ _ => False) (ownFrom_below (Nat.le_refl _) (Nat.le_refl _)) (fun c s W W' row h _ _ => h.elim) (Below.refl _ _)
        (fun x a' W => True) (fun x a' s W W' row h _ _ => trivial) ?assign ?body ?done ?stop
      case assign =>
        rintro l pre x W K2 hI2 hK2
        gi_wp2
        exact hK2 _ _ (KeepsFrom.refl _ _) (Below.refl _ _) hI2 trivial
      case body =>
        rintro l pre x a' W hl _ hI2 _ hlt
        exact absurd hlt (by simp)
      case stop =>
        rintro D cd pre W hD _ h _
        exact h.elim
      case done =>
        rintro D ys V2 hD rfl hB2 hd
        have HB2 := Lib.hid (HB1.out.trans (hB2.mono HB1.out.size))
        have HD := Lib.hid (And.intro hD hd)
        have b0 : V2.cell? ⟨b, 0, none⟩ = some (.int .i64 k) := (HS.out.box.below HB2.out HS.out.box.lt).cell 0
        have bl2 : b < V2.heap.size := Nat.lt_of_lt_of_le bl HB2.out.size
        have hkw : IntKind.i64.wrap ((k : Int) + 1) = k + 1 := by rw [IntKind.wrap_i64]; have := HKM.out; omega
        go_wp2_with fail
        refine Handed.intro (m - 1) (by have := HKM.out; omega) (HJ.out _ _ _ ⟨k + 1, V2.heap.size, D :: Ds, ⟨by have := HKM.out; omega, by omega⟩, ?_, _, _, _, _, _, _, _, _, _, _, _, _, _, _, _, _, _, _, _, _, _, _, _, _, _, _, _, _, _, _, _, _, _, _, _, _, _, _, _, _, _, _, _, _, rfl⟩)
        have hV3 : Below V2.heap.size V2 (V2.alloc (.cells #[.int .i64 ((k : Int) + 1)] 3)) := (Below.refl _ _).alloc (Nat.le_refl _) _
        have hV4 : Below V.heap.size V (V2.alloc (.cells #[.int .i64 ((k : Int) + 1)] 3)) := HB2.out.trans (hV3.mono HB2.out.size)
        have hm3 := HS.out.marks.leaves (leaves_of (T := fun _ => False) hV4) (fun k _ _ => id)
        have hmk : Marks nn (D :: Ds) (V2.alloc (.cells #[.int .i64 ((k : Int) + 1)] 3)) := Marks.cons hm3 (n₁ := W1.heap.size) (fun E hE => by have := heap_lt (HS.out.marks.2 E hE).2; have := HB1.out.size; omega) HD.out.1 (by have := HIN.out; have := HS.out.kp.size; have := HB1.out.size; omega) ((hV3.block D (heap_lt HD.out.2)).trans HD.out.2)
        exact ⟨by have := HS.out.kp.size; have := HB2.out.size; have := HIN.out; omega, Has.new _ _ _, hmk, HS.out.kp.trans (leaves_of hV4), fun h => (HS.out.lo (by have := HKM.out; omega)).below hV4 (HS.out.lo (by have := HKM.out; omega)).lt, fun h => (HS.out.hi (by omega)).below hV4⟩
end Go.Proofs.YtbeikfopneeodaaGreat
