/- Write-backs: the reference's count and check. One clause: the program's check. -/
import Derived.Test.YtlbkhhbbkedhkaaGreatDoorMa07
namespace Go.Proofs.YtlbkhhbbkedhkaaGreatDoor
open Go.RowKit
set_option linter.unusedVariables false

def kids (us : Nat → Wb) (k : Nat) : Nat := sumN (fun i => countL (us i).n (us i).us) k
theorem countL_kids (us : Nat → Wb) (k : Nat) : countL k us = k + kids us k := by
  induction k with
  | zero => rfl
  | succ k ih =>
    have h := (us k).parts.1
    unfold countL at ih ⊢
    unfold kids at ih ⊢
    rw [sumN, sumN, ih, h]
    omega
theorem Wb.slot {w : World} {b o : Nat} {u : Wb} {a : WA} (h : w.rangeAt b o (u.cells a).toList) : w.cell? ⟨b, o + 7, none⟩ = some (.slice a.A u.n a.c) := h 7 _ rfl
theorem Wb.slotN {w : World} {b o : Nat} {u : Wb} {a : WA} (h : w.rangeAt b o (u.cells a).toList) : w.cell? ⟨b, o, none⟩ = some (.string u.name) := h 0 _ rfl
theorem Wb.slotE {w : World} {b o : Nat} {u : Wb} {a : WA} (h : w.rangeAt b o (u.cells a).toList) : w.rangeAt b (o + 1) (u.e.cells a.ea).toList := by
  rw [← Ex.cells_is]
  exact range_six (h 1 _ rfl) (h 2 _ rfl) (h 3 _ rfl) (h 4 _ rfl) (h 5 _ rfl) (h 6 _ rfl)

set_option maxRecDepth 100000 in
set_option maxHeartbeats 2000000 in
theorem rcount_any (b : Wb) : ∀ (A : Option Addr) (ca : Nat) (w : World), WbsAt w w.heap.size A b.n b.us →
    Calls Tryz.prog 88 #[.slice A b.n ca] w fun r w' => r = .returned (.int .i64 (min (countL b.n b.us) 41 : Nat)) ∧ w' = w := by
  induction b using Wb.recL with
  | bot h => exact h
  | mk name e n us ih =>
    intro A ca w hx
    show Calls Tryz.prog 88 #[.slice A n ca] w fun r w' => r = .returned (.int .i64 (min (countL n us) 41 : Nat)) ∧ w' = w
    have hx : WbsAt w w.heap.size A n us := hx
    have IH := Lib.hid ih
    have HX := Lib.hid hx
    have hn := hx.1
    have HD := Lib.hid (countL_kids us n)
    clear ih hx
    unfold big at hn
    go_enter Tryz.func88, Tryz.ntmps88
    go_wp2_with fail
    go_loopw [3, 4] (fun s i wr => ∃ k c : Nat, k ≤ n ∧ i = .int .i64 k ∧ s = .int .i64 c ∧ c ≤ 9223372036854775807 ∧ Hid (min c 41 = min (n + kids us k) 41) ∧ wr = w) (fun _ i _ => n - (intOf i).toNat)
    case atStart => exact ⟨0, n, Nat.zero_le _, rfl, rfl, hn, Lib.hid rfl, rfl⟩
    case round =>
      obtain ⟨k, c, hk, rfl, rfl, hc, HM, rfl⟩ := hrel
      by_cases hlt : k < n
      · have hk0 : (0 : Int) ≤ k := by omega
        have hk1 : (k : Int) < n := by omega
        have HLE : Hid (kids us k + countL (us k).n (us k).us ≤ kids us n) := Lib.hid (sumN_le (f := fun i => countL (us i).n (us i).us) hlt)
        by_cases hn3 : c ≤ 40
        · have hn3' : (c : Int) ≤ 40 := by omega
          obtain ⟨P, hP⟩ := HX.out.args
          obtain ⟨⟨_, hxu⟩, bb, o, hAa, hbb, hrg⟩ := hP k hlt
          subst hAa
          have hcell := Wb.slot hrg
          have HCALL := Lib.hid (IH.out k hlt (P k).A (P k).c wr hxu)
          obtain ⟨pA, hpA⟩ : ∃ z, (P k).A = z := ⟨_, rfl⟩
          obtain ⟨pc, hpc⟩ : ∃ z, (P k).c = z := ⟨_, rfl⟩
          obtain ⟨yn, hyn⟩ : ∃ z, (us k).n = z := ⟨_, rfl⟩
          obtain ⟨sz, hsz⟩ : ∃ sz, min (countL (us k).n (us k).us) 41 = sz := ⟨_, rfl⟩
          have HM2 : Hid (min (c + sz) 41 = min (n + kids us (k + 1)) 41) := Lib.hid (by rw [kids, sumN]; have := HM.out; unfold kids at this; omega)
          rw [hsz, hpA, hpc, hyn] at HCALL
          rw [hpA, hpc, hyn] at hcell
          have hs41 : sz ≤ 41 := by omega
          clear hxu hrg hP hsz hyn hpA hpc
          go_wp2_with fail
          refine HCALL.out.mono ?_
          rintro e w5 ⟨rfl, rfl⟩
          clear HCALL
          go_wp2_with fail
          go_roundw
          case rel => exact ⟨k + 1, c + sz, by omega, by go_num, by go_num, by omega, HM2, by trivial⟩
          case measure => simp [intOf]; omega
        · have hn3' : (40 : Int) < c := by omega
          have HR : Hid (min (countL n us) 41 = 41) := Lib.hid (by
            rw [HD.out]
            have := HM.out
            have := HLE.out
            omega)
          have hmin : min (c : Int) 41 = 41 := by omega
          go_wp2_with fail
          go_ret
          exact ⟨by rw [HR.out]; rfl, rfl⟩
      · have hkn : k = n := by omega
        subst hkn
        have hdd : decide ((k : Int) < k) = false := by rw [decide_eq_false_iff_not]; omega
        have HR : Hid (((min (countL k us) 41 : Nat) : Int) = min (c : Int) 41) := Lib.hid (by
          rw [HD.out]
          have := HM.out
          omega)
        go_wp2_with fail
        go_ret
        exact ⟨by rw [HR.out]; rfl, rfl⟩

def RBacksP (n : Nat) (us : Nat → Wb) (d : Nat) : Prop := depthL n us ≤ d ∧ allL n us
theorem depthL_pos {n k : Nat} (us : Nat → Wb) (h : k < n) : 1 ≤ depthL n us := by
  have h1 : (us k).depth ≤ depthL n us := maxN_le (f := fun i => (us i).depth) h
  have h2 := (us k).parts.2.1
  omega

set_option maxRecDepth 100000 in
set_option maxHeartbeats 2000000 in
theorem rbacks_any (b : Wb) : ∀ (A : Option Addr) (ca d : Nat) (w : World), WbsAt w w.heap.size A b.n b.us → d ≤ 16 →
    Calls Tryz.prog 89 #[.slice A b.n ca, .int .i64 d] w (IffPost (RBacksP b.n b.us d) w) := by
  induction b using Wb.recL with
  | bot h => exact h
  | mk name e n us ih =>
    intro A ca d w hx hd
    show Calls Tryz.prog 89 #[.slice A n ca, .int .i64 d] w (IffPost (RBacksP n us d) w)
    have hx : WbsAt w w.heap.size A n us := hx
    have IH := Lib.hid ih
    have HX := Lib.hid hx
    have hn := hx.1
    have HXI := Lib.hid ex_info
    clear ih hx
    unfold big at hn
    by_cases hz : 0 < n ∧ d = 0
    · obtain ⟨hz, rfl⟩ := hz
      have hz' : (0 : Int) < n := by omega
      go_enter Tryz.func89, Tryz.ntmps89
      go_wp2_with fail
      go_ret
      exact IffPost.no (fun c => by have := depthL_pos us hz; have := c.1; omega) (Below.refl _ _)
    by_cases h0 : n = 0
    · subst h0
      have hdd : decide ((0 : Int) < 0) = false := rfl
      go_enter Tryz.func89, Tryz.ntmps89
      go_wp2_with fail
      go_loopw [5] (fun i wr => i = .int .i64 0 ∧ wr = w) (fun _ _ => 0)
      case atStart => exact ⟨rfl, rfl⟩
      case round =>
        obtain ⟨rfl, rfl⟩ := hrel
        go_wp2_with fail
        go_ret
        exact IffPost.yes ⟨Nat.zero_le _, fun i hi => by omega⟩ (Below.refl _ _)
    have h0' : (0 : Int) < n := by omega
    have h1' : ((d : Int) == 0) = false := by rw [beq_eq_false_iff_ne]; omega
    obtain ⟨d', hd'⟩ : ∃ d', d = d' + 1 := ⟨d - 1, by omega⟩
    have HD' := Lib.hid hd'
    have hdi : ((d' : Nat) : Int) = (d : Int) - 1 := by omega
    have HDI := Lib.hid hdi
    clear hd' hdi
    go_enter Tryz.func89, Tryz.ntmps89
    go_wp2_with fail
    go_loopw [5] (fun i wr => ∃ k : Nat, k ≤ n ∧ i = .int .i64 k ∧ Hid (Below w.heap.size w wr) ∧ Hid (∀ i, i < k → (us i).depth ≤ d ∧ (us i).all)) (fun i _ => n - (intOf i).toNat)
    case atStart => exact ⟨0, Nat.zero_le _, rfl, Lib.hid (Below.refl _ _), Lib.hid fun i hi => by omega⟩
    case round =>
      obtain ⟨k, hk, rfl, HB, HA⟩ := hrel
      by_cases hlt : k < n
      · have hk0 : (0 : Int) ≤ k := by omega
        have hk1 : (k : Int) < n := by omega
        obtain ⟨P, hP⟩ := HX.out.args
        obtain ⟨⟨hxe, hxu⟩, bb, o, hAa, hbb, hrg⟩ := hP k hlt
        subst hAa
        have HRG : Hid (wr.rangeAt bb (o + k * 8) ((us k).cells (P k)).toList) := Lib.hid fun j v hj => by rw [HB.out.cell (p := ⟨bb, o + k * 8 + j, none⟩) hbb]; exact hrg j v hj
        have HI := Lib.hid (IH.out k hlt (P k).A (P k).c d')
        rw [HDI.out] at HI
        have HXE : Hid (ExAt w w.heap.size (us k).e (P k).ea ∧ WbsAt w w.heap.size (P k).A (us k).n (us k).us) := Lib.hid ⟨hxe, hxu⟩
        have HPT := Lib.hid (us k).parts
        obtain ⟨nm, hnm⟩ : ∃ z, (us k).name = z := ⟨_, rfl⟩
        obtain ⟨ye, hye⟩ : ∃ z, (us k).e = z := ⟨_, rfl⟩
        obtain ⟨yn, hyn⟩ : ∃ z, (us k).n = z := ⟨_, rfl⟩
        obtain ⟨yu, hyu⟩ : ∃ z, (us k).us = z := ⟨_, rfl⟩
        obtain ⟨pa, hpa⟩ : ∃ z, P k = z := ⟨_, rfl⟩
        have hc0 := Wb.slotN HRG.out
        have hc7 := Wb.slot HRG.out
        have hRE := Lib.hid (Wb.slotE HRG.out)
        rw [hnm] at hc0
        rw [hyn, hpa] at hc7
        rw [hye, hpa] at hRE
        rw [hnm, hye, hyn, hyu] at HPT
        rw [hye, hyn, hyu, hpa] at HXE
        rw [hyn, hyu, hpa] at HI
        obtain ⟨pe, pA, pc⟩ := pa
        simp only at hc7 HXE HI hRE
        have HUK : Hid (∃ z, us k = z ∧ z.count = 1 + countL yn yu ∧ z.depth = 1 + depthL yn yu ∧ (z.all ↔ nameB nm = true ∧ ye.ok ∧ allL yn yu)) := Lib.hid ⟨_, rfl, HPT.out⟩
        obtain ⟨uk, huk, _, hdp, hal⟩ := HUK.out
        have HUKE := Lib.hid huk
        have HUC := Lib.hid (And.intro hdp hal)
        have CE := Lib.hid (rexpr_any ye pe wr (HXE.out.1.below HB.out HB.out.size))
        clear hnm hye hyn hyu hpa hP hxe hxu hrg HPT HUK huk hdp hal HRG
        have hsz := HB.out.size
        cases hb : nameB nm with
        | false =>
          go_wp2_with (first | (go_at_call 81; refine (rname_any _ _).mono ?_; rintro e w' ⟨rfl, rfl⟩))
          go_ret
          exact IffPost.no (fun c => by
            have h7 := c.2 k hlt
            rw [HUKE.out, HUC.out.2] at h7
            rw [hb] at h7
            cases h7.1) HB.out
        | true =>
          go_wp2_with (first | (go_at_call 81; refine (rname_any _ _).mono ?_; rintro e w' ⟨rfl, rfl⟩) | (refine wpList_load_midw ?_ 43 (.tmp 30) ?_ bb (o + k * 8 + 1) ?_ _ _ hRE.out Tryz.underlying43 ?_ (by rw [Array.length_toList, Ex.cells_size]; exact HXI.out) ?_; rfl; rfl; rfl; rfl))
          refine CE.out.mono ?_
          rintro e w5 ⟨b, rfl, hbe, hb5⟩
          have HBE := Lib.hid hbe
          have hbb' : bb < wr.heap.size := by omega
          have hc7' : w5.cell? ⟨bb, o + k * 8 + 7, none⟩ = some (.slice pA yn pc) := by rw [hb5.cell (p := ⟨bb, o + k * 8 + 7, none⟩) hbb']; exact hc7
          replace HB := Lib.hid (HB.out.trans (hb5.mono HB.out.size))
          have HNM := Lib.hid hb
          clear hbe hb5 CE hc0 hc7 hRE hb
          cases b with
          | false =>
            go_wp2_with fail
            go_ret
            exact IffPost.no (fun c => by
              have h7 := c.2 k hlt
              rw [HUKE.out, HUC.out.2] at h7
              have := HBE.out.2 h7.2.1
              cases this) HB.out
          | true =>
            have HCALL := Lib.hid (HI.out w5 (HXE.out.2.below HB.out HB.out.size) (by have := HD'.out; omega))
            clear HI
            go_wp2_with fail
            refine HCALL.out.mono ?_
            rintro e w6 ⟨b, rfl, hbe, hb6⟩
            have HBB := Lib.hid hbe
            replace HB := Lib.hid (HB.out.trans (hb6.mono HB.out.size))
            clear hbe hb6 HCALL hc7'
            cases b with
            | false =>
              go_wp2_with fail
              go_ret
              exact IffPost.no (fun c => by
                have h5 := c.2 k hlt
                have h7 := c.1
                have h9 : (us k).depth ≤ depthL n us := maxN_le (f := fun i => (us i).depth) hlt
                rw [HUKE.out] at h5 h9
                rw [HUC.out.1] at h9
                have := HBB.out.2 ⟨by have := HD'.out; omega, (HUC.out.2.1 h5).2.2⟩
                cases this) HB.out
            | true =>
              have hp := HBB.out.1 (by trivial)
              have HP := Lib.hid hp
              have hye : ye.ok := HBE.out.1 (by trivial)
              clear HBE HBB hp
              go_wp2_with fail
              go_roundw
              case rel => exact ⟨k + 1, by omega, by go_num, HB, Lib.hid fun i hi => by
                by_cases e : i = k
                · subst e
                  rw [HUKE.out, HUC.out.1, HUC.out.2]
                  exact ⟨by have := HP.out.1; have := HD'.out; omega, HNM.out, hye, HP.out.2⟩
                · exact HA.out i (by omega)⟩
              case measure => simp [intOf]; omega
      · have hkn : k = n := by omega
        subst hkn
        have hdd : decide ((k : Int) < k) = false := by rw [decide_eq_false_iff_not]; omega
        go_wp2_with fail
        go_ret
        exact IffPost.yes ⟨maxN_lub (f := fun i => (us i).depth) fun i hi => (HA.out i hi).1, fun i hi => (HA.out i hi).2⟩ HB.out
end Go.Proofs.YtlbkhhbbkedhkaaGreatDoor
namespace Go.Proofs.YtlbkhhbbkedhkaaGreatDoor
open Go.RowKit
set_option linter.unusedVariables false

theorem keyword_any (k : Int) (w : World) : Calls Tryz.prog 97 #[.int .i64 k] w fun e w' => ∃ s : ByteArray, e = .returned (.string s) ∧ (s.toList == []) = !decide (1 ≤ k ∧ k ≤ 10) ∧ w = w' := by
  by_cases h : 1 ≤ k ∧ k ≤ 10
  · have hc : k = 1 ∨ k = 2 ∨ k = 3 ∨ k = 4 ∨ k = 5 ∨ k = 6 ∨ k = 7 ∨ k = 8 ∨ k = 9 ∨ k = 10 := by omega
    clear h
    rcases hc with rfl | rfl | rfl | rfl | rfl | rfl | rfl | rfl | rfl | rfl
    all_goals
      go_enter Tryz.func97, Tryz.ntmps97
      go_wp2_with fail
      go_ret
      exact ⟨_, rfl, by rw [ByteArray.toList_eq]; rfl, rfl⟩
  · have h1 : (k == 1) = false := by rw [beq_eq_false_iff_ne]; omega
    have h2 : (k == 2) = false := by rw [beq_eq_false_iff_ne]; omega
    have h3 : (k == 3) = false := by rw [beq_eq_false_iff_ne]; omega
    have h4 : (k == 4) = false := by rw [beq_eq_false_iff_ne]; omega
    have h5 : (k == 5) = false := by rw [beq_eq_false_iff_ne]; omega
    have h6 : (k == 6) = false := by rw [beq_eq_false_iff_ne]; omega
    have h7 : (k == 7) = false := by rw [beq_eq_false_iff_ne]; omega
    have h8 : (k == 8) = false := by rw [beq_eq_false_iff_ne]; omega
    have h9 : (k == 9) = false := by rw [beq_eq_false_iff_ne]; omega
    have h0 : (k == 10) = false := by rw [beq_eq_false_iff_ne]; omega
    have hr : decide (1 ≤ k ∧ k ≤ 10) = false := decide_eq_false h
    clear h
    rw [hr]
    clear hr
    go_enter Tryz.func97, Tryz.ntmps97
    go_wp2_with fail
    go_ret
    exact ⟨_, rfl, by rw [ByteArray.toList_eq]; rfl, rfl⟩

/-- the greatest amount of a kind of clause -/
def mostZ (k : Int) : Int := if k = 5 ∨ k = 6 ∨ k = 7 ∨ k = 10 then 1073741824 else if k = 8 then 1000000 else 0
theorem mostZ_cases (k : Int) : mostZ k = 1073741824 ∨ mostZ k = 1000000 ∨ mostZ k = 0 := by
  unfold mostZ
  split
  · exact .inl rfl
  · split
    · exact .inr (.inl rfl)
    · exact .inr (.inr rfl)
theorem greatest_any (k : Int) (w : World) : Calls Tryz.prog 99 #[.int .i64 k] w fun e w' => e = .returned (.int .i64 (mostZ k)) ∧ w = w' := by
  by_cases h : k = 5 ∨ k = 6 ∨ k = 7 ∨ k = 10 ∨ k = 8
  · rcases h with rfl | rfl | rfl | rfl | rfl
    all_goals
      go_enter Tryz.func99, Tryz.ntmps99
      go_wp2_with fail
      go_ret
      exact ⟨rfl, rfl⟩
  · have h5 : (k == 5) = false := by rw [beq_eq_false_iff_ne]; omega
    have h6 : (k == 6) = false := by rw [beq_eq_false_iff_ne]; omega
    have h7 : (k == 7) = false := by rw [beq_eq_false_iff_ne]; omega
    have h8 : (k == 8) = false := by rw [beq_eq_false_iff_ne]; omega
    have h0 : (k == 10) = false := by rw [beq_eq_false_iff_ne]; omega
    have hr : mostZ k = 0 := by unfold mostZ; rw [if_neg (by omega), if_neg (by omega)]
    clear h
    rw [hr]
    clear hr
    go_enter Tryz.func99, Tryz.ntmps99
    go_wp2_with fail
    go_ret
    exact ⟨rfl, rfl⟩
theorem rmost_any (k : Int) (w : World) : Calls Tryz.prog 54 #[.int .i64 k] w fun e w' => e = .returned (.int .i64 (mostZ k)) ∧ w = w' := by
  by_cases h : k = 5 ∨ k = 6 ∨ k = 7 ∨ k = 10 ∨ k = 8
  · rcases h with rfl | rfl | rfl | rfl | rfl
    all_goals
      go_enter Tryz.func54, Tryz.ntmps54
      go_wp2_with fail
      go_ret
      exact ⟨rfl, rfl⟩
  · have h5 : (k == 5) = false := by rw [beq_eq_false_iff_ne]; omega
    have h6 : (k == 6) = false := by rw [beq_eq_false_iff_ne]; omega
    have h7 : (k == 7) = false := by rw [beq_eq_false_iff_ne]; omega
    have h8 : (k == 8) = false := by rw [beq_eq_false_iff_ne]; omega
    have h0 : (k == 10) = false := by rw [beq_eq_false_iff_ne]; omega
    have hr : mostZ k = 0 := by unfold mostZ; rw [if_neg (by omega), if_neg (by omega)]
    clear h
    rw [hr]
    clear hr
    go_enter Tryz.func54, Tryz.ntmps54
    go_wp2_with fail
    go_ret
    exact ⟨rfl, rfl⟩

def Cl.cells (b : Cl) (a : WA) : Array Value := #[.int .i64 b.kind, .string b.name, b.e.cell a.ea 0, b.e.cell a.ea 1, b.e.cell a.ea 2, b.e.cell a.ea 3, b.e.cell a.ea 4, b.e.cell a.ea 5, .slice a.A b.n a.c, .int .i64 b.amt]
theorem Cl.cells_get (b : Cl) (a : WA) (k : Nat) (hk : k < 10) : (b.cells a).toList[k]? = some (b.cell a k) := by
  match k, hk with
  | 0, _ | 1, _ | 2, _ | 3, _ | 4, _ | 5, _ | 6, _ | 7, _ | 8, _ | 9, _ => rfl
  | k + 10, h => omega
theorem Cl.cells_one (b : Cl) (a : WA) : (b.cells a).toList.all (·.oneCell') = true := by
  obtain ⟨kind, name, e, n, us, amt⟩ := b
  cases e <;> rfl
theorem Cl.cells_ex (b : Cl) (a : WA) : ∃ x0 x1 x2 x3 x4 x5, b.cells a = #[.int .i64 b.kind, .string b.name, x0, x1, x2, x3, x4, x5, .slice a.A b.n a.c, .int .i64 b.amt] ∧ #[x0, x1, x2, x3, x4, x5] = b.e.cells a.ea ∧ (#[.int .i64 b.kind, .string b.name, x0, x1, x2, x3, x4, x5, .slice a.A b.n a.c, .int .i64 b.amt] : Array Value).toList.all (·.oneCell') = true := ⟨_, _, _, _, _, _, rfl, Ex.cells_is _ _, b.cells_one a⟩
theorem Cl.range {w : World} {b o : Nat} {e : Cl} {a : WA} (h : ∀ k, k < 10 → w.cell? ⟨b, o + k, none⟩ = some (e.cell a k)) : w.rangeAt b o (e.cells a).toList := fun k v hk => by
  have h8 : k < 10 := by
    rcases Nat.lt_or_ge k 10 with h | h
    · exact h
    · rw [List.getElem?_eq_none (by simpa [Cl.cells] using h)] at hk; cases hk
  rw [Cl.cells_get e a k h8] at hk
  injection hk with hk
  rw [← hk]
  exact h k h8
set_option maxRecDepth 100000 in
theorem cl_info : (Tryz.prog.info? 46).map (·.size) = some 10 := by kernel_rfl

def amtP (k a : Int) : Prop := min 1 (mostZ k) ≤ a ∧ a ≤ mostZ k
def unP (k : Int) (n : Nat) (us : Nat → Wb) : Prop := (k = 3 ∨ n = 0) ∧ countL n us ≤ 40 ∧ depthL n us ≤ 16 ∧ allL n us
def Cl.ok (b : Cl) : Prop := (1 ≤ b.kind ∧ b.kind ≤ 10) ∧ nameB b.name = true ∧ b.e.ok ∧ unP b.kind b.n b.us ∧ amtP b.kind b.amt

set_option maxRecDepth 100000 in
set_option maxHeartbeats 4000000 in
theorem clause_any (b : Cl) (a : WA) (w : World) (ht : Tab w) (h : ClAt w w.heap.size b a) : Calls Tryz.prog 67 #[.agg (b.cells a)] w (IffPost b.ok w) := by
  obtain ⟨x0, x1, x2, x3, x4, x5, hcs, hce, hc1⟩ := Cl.cells_ex b a
  obtain ⟨kd, nm, ye, yn, yu, am⟩ := b
  obtain ⟨pe, pA, pc⟩ := a
  rw [hcs]
  simp only at hce ⊢
  have HTB := Lib.hid ht
  have HX := Lib.hid h
  have HCE := Lib.hid hce
  have HXI := Lib.hid ex_info
  have hpos := ht.pos
  have hyn : yn ≤ big := h.2.1
  unfold big at hyn
  clear ht h hcs hc1 hce
  obtain ⟨OK, hOK⟩ : ∃ P, (Cl.mk kd nm ye yn yu am).ok = P := ⟨_, rfl⟩
  have HQ : Hid (OK ↔ (1 ≤ kd ∧ kd ≤ 10) ∧ nameB nm = true ∧ ye.ok ∧ unP kd yn yu ∧ amtP kd am) := Lib.hid (by rw [← hOK]; exact Iff.rfl)
  rw [hOK]
  clear hOK
  obtain ⟨KB, hKB⟩ : ∃ b : Bool, (!decide (1 ≤ kd ∧ kd ≤ 10)) = b := ⟨_, rfl⟩
  have CK : Hid (∀ W, Calls Tryz.prog 97 #[.int .i64 kd] W fun e w' => ∃ s : ByteArray, e = .returned (.string s) ∧ (s.toList == []) = KB ∧ W = w') := Lib.hid fun W => by rw [← hKB]; exact keyword_any kd W
  have HKB := Lib.hid hKB
  clear hKB
  go_enter Tryz.func67, Tryz.ntmps67
  go_upto_region 1 with (fail)
  have HB : Hid (Below w.heap.size w (w.alloc (.cells #[.int .i64 kd, .string nm, x0, x1, x2, x3, x4, x5, .slice pA yn pc, .int .i64 am] 46))) := Lib.hid ((Below.refl _ _).alloc (Nat.le_refl _) _)
  have HE := Lib.hid (Has.new w #[.int .i64 kd, .string nm, x0, x1, x2, x3, x4, x5, .slice pA yn pc, .int .i64 am] 46)
  obtain ⟨W, hW⟩ : ∃ W, w.alloc (.cells #[.int .i64 kd, .string nm, x0, x1, x2, x3, x4, x5, .slice pA yn pc, .int .i64 am] 46) = W := ⟨_, rfl⟩
  rw [hW] at HB HE ⊢
  clear hW
  obtain ⟨G, hG⟩ : ∃ G, w.heap.size = G := ⟨_, rfl⟩
  have HGE := Lib.hid hG
  rw [hG] at HE ⊢
  clear hG
  obtain ⟨e0, e1, e2⟩ := HE.out.rules
  have HRX : Hid (W.rangeAt G 2 [x0, x1, x2, x3, x4, x5]) := Lib.hid (range_six (by rw [HE.out.cell]; rfl) (by rw [HE.out.cell]; rfl) (by rw [HE.out.cell]; rfl) (by rw [HE.out.cell]; rfl) (by rw [HE.out.cell]; rfl) (by rw [HE.out.cell]; rfl))
  have HEV := Lib.hid (evalid_any ye pe W (HTB.out.below HB.out hpos) (HX.out.1.below HB.out HB.out.size))
  rw [← HCE.out] at HEV
  clear HCE
  cases KB with
  | true =>
    go_wp2_with (first | (go_at_call 97; refine (CK.out _).mono ?_; rintro e w' ⟨s, rfl, hs, rfl⟩))
    go_ret
    exact IffPost.no (fun c => by have := (HQ.out.1 c).1; have h2 := HKB.out; rw [decide_eq_true this] at h2; cases h2) HB.out
  | false =>
    have hkr : 1 ≤ kd ∧ kd ≤ 10 := by
      have := HKB.out
      rw [Bool.not_eq_false', decide_eq_true_iff] at this
      exact this
    have HKR := Lib.hid hkr
    clear HKB hkr
    cases hb : nameB nm with
    | false =>
      go_wp2_with (first | (go_at_call 97; refine (CK.out _).mono ?_; rintro e w' ⟨s, rfl, hs, rfl⟩) | (go_at_call 68; refine (name_any _ _).mono ?_; rintro e w' ⟨rfl, rfl⟩))
      go_ret
      exact IffPost.no (fun c => by have := (HQ.out.1 c).2.1; rw [hb] at this; cases this) HB.out
    | true =>
      go_wp2_with (first | (go_at_call 97; refine (CK.out _).mono ?_; rintro e w' ⟨s, rfl, hs, rfl⟩) | (go_at_call 68; refine (name_any _ _).mono ?_; rintro e w' ⟨rfl, rfl⟩) | (refine wpList_load_midw ?_ 43 (.tmp 16) ?_ G 2 ?_ _ _ HRX.out Tryz.underlying43 ?_ HXI.out ?_; rfl; rfl; rfl; rfl))
      refine HEV.out.mono ?_
      rintro e w5 ⟨b, rfl, hbe, hb5⟩
      have HBE := Lib.hid hbe
      have HNM := Lib.hid hb
      replace HB := Lib.hid (HB.out.trans (hb5.mono HB.out.size))
      replace HE := Lib.hid (HE.out.below hb5 e2)
      clear hbe hb5 HEV HRX e0 e1 e2 hb CK
      obtain ⟨e0, e1, e2⟩ := HE.out.rules
      cases b with
      | false =>
        go_wp2_with fail
        go_ret
        exact IffPost.no (fun c => by have := HBE.out.2 (HQ.out.1 c).2.2.1; cases this) HB.out
      | true =>
        have HQ2 : Hid (OK ↔ unP kd yn yu ∧ amtP kd am) := Lib.hid ⟨fun c => (HQ.out.1 c).2.2.2, fun c => HQ.out.2 ⟨HKR.out, HNM.out, HBE.out.1 (by trivial), c⟩⟩
        clear HQ HBE HNM
        by_cases h3 : kd ≠ 3 ∧ 0 < yn
        · have h3' : (kd != 3) = true := by simpa using h3.1
          have hn' : (0 : Int) < yn := by omega
          go_wp2_with fail
          go_ret
          exact IffPost.no (fun c => by have := (HQ2.out.1 c).1.1; omega) HB.out
        have h3c : kd = 3 ∨ yn = 0 := by omega
        have HQ3 : Hid (OK ↔ (countL yn yu ≤ 40 ∧ depthL yn yu ≤ 16 ∧ allL yn yu) ∧ amtP kd am) := Lib.hid ⟨fun c => ⟨(HQ2.out.1 c).1.2, (HQ2.out.1 c).2⟩, fun c => HQ2.out.2 ⟨⟨h3c, c.1⟩, c.2⟩⟩
        clear HQ2
        have hcase : (kd = 3) ∨ (kd ≠ 3 ∧ yn = 0) := by omega
        clear h3c h3
        have hrun : ((kd != 3) = false) ∨ ((kd != 3) = true ∧ (yn : Int) ≤ 0) := by
          rcases hcase with h | ⟨h, h0⟩
          · exact .inl (by simpa using h)
          · exact .inr ⟨by simpa using h, by omega⟩
        clear hcase
        obtain ⟨mz, hmz⟩ : ∃ z, mostZ kd = z := ⟨_, rfl⟩
        obtain ⟨mn, hmn⟩ : ∃ z, min 1 mz = z := ⟨_, rfl⟩
        have CG : Hid (∀ W, Calls Tryz.prog 99 #[.int .i64 kd] W fun e w' => e = .returned (.int .i64 mz) ∧ W = w') := Lib.hid fun W => by rw [← hmz]; exact greatest_any kd W
        have HAM : Hid (amtP kd am ↔ mn ≤ am ∧ am ≤ mz) := Lib.hid (by unfold amtP; rw [hmz, hmn])
        have HMC := Lib.hid (mostZ_cases kd)
        rw [hmz] at HMC
        clear hmz
        have hmz0 : 0 ≤ mz ∧ mz ≤ 1073741824 := by have := HMC.out; omega
        clear HMC
        rcases hrun with h3' | ⟨h3', hn'⟩
        all_goals
          go_upto_region 6 with (first | (go_at_call 99; refine (CG.out _).mono ?_; rintro e w' ⟨rfl, rfl⟩))
          by_cases ha : am < mn
          · go_wp2_with fail
            go_ret
            exact IffPost.no (fun c => by have := HAM.out.1 (HQ3.out.1 c).2; omega) HB.out
          by_cases hm : mz < am
          · have ha' : mn ≤ am := by omega
            go_wp2_with fail
            go_ret
            exact IffPost.no (fun c => by have := HAM.out.1 (HQ3.out.1 c).2; omega) HB.out
          have ha' : mn ≤ am := by omega
          have hm' : am ≤ mz := by omega
          have HQ4 : Hid (OK ↔ (countL yn yu ≤ 40 ∧ depthL yn yu ≤ 16 ∧ allL yn yu)) := Lib.hid ⟨fun c => (HQ3.out.1 c).1, fun c => HQ3.out.2 ⟨c, HAM.out.2 ⟨ha', hm'⟩⟩⟩
          clear HQ3 HAM ha hm hmz0
          go_upto_region 9 with (fail)
          have HC := Lib.hid (Has.new w5 #[.int .i64 ((0 : Nat) : Int)] 3)
          have HE2 := Lib.hid (HE.out.alloc (.cells #[.int .i64 ((0 : Nat) : Int)] 3))
          have HB2 : Hid (Below w5.heap.size w5 (w5.alloc (.cells #[.int .i64 ((0 : Nat) : Int)] 3))) := Lib.hid ((Below.refl _ _).alloc (Nat.le_refl _) _)
          have HB3 : Hid (Below w.heap.size w (w5.alloc (.cells #[.int .i64 ((0 : Nat) : Int)] 3))) := Lib.hid (HB.out.trans (HB2.out.mono HB.out.size))
          have hsz5 := HB.out.size
          have HCALL := Lib.hid (backs_any (.mk nm ye yn yu) pA pc 1 0 w5.heap.size (w5.alloc (.cells #[.int .i64 ((0 : Nat) : Int)] 3)) (HTB.out.below HB3.out hpos) ((HX.out.2.below HB3.out hsz5)) HC.out (by omega) (by omega) (by omega))
          obtain ⟨V, hV⟩ : ∃ V, w5.alloc (.cells #[.int .i64 ((0 : Nat) : Int)] 3) = V := ⟨_, rfl⟩
          have hV' : w5.alloc (.cells #[.int .i64 0] 3) = V := hV
          rw [hV] at HC HE2 HB2 HB3 HCALL
          rw [hV']
          clear hV hV' e0 e1 e2
          obtain ⟨e0, e1, e2⟩ := HE2.out.rules
          obtain ⟨q0, q1, q2⟩ := HC.out.rules
          obtain ⟨G2, hG2⟩ : ∃ G2, w5.heap.size = G2 := ⟨_, rfl⟩
          rw [hG2] at HCALL ⊢
          have hG2' : w.heap.size ≤ G2 := by omega
          have HCALL' : Hid (Calls Tryz.prog 100 #[.slice pA yn pc, .int .i64 1, .pointer (some ⟨G2, 0, none⟩)] V (BacksPost yn yu 1 0 G2 V)) := HCALL
          go_wp2_with fail
          refine HCALL'.out.mono ?_
          rintro e w6 ⟨b, m, rfl, hb1, _, _, _, hk⟩
          have HB6 := Lib.hid (HB3.out.trans (hk.below hG2' HB3.out.size))
          have HBB := Lib.hid hb1
          clear hb1 hk HCALL HCALL' HC HE2 e0 e1 e2 q0 q1 q2
          go_wp2_with fail
          go_ret
          exact ⟨b, rfl, HBB.out.trans ⟨fun c => HQ4.out.2 ⟨by have := c.1; omega, by have := c.2.1; omega, c.2.2⟩, fun c => by have := HQ4.out.1 c; exact ⟨by omega, by omega, this.2.2⟩⟩, HB6.out⟩
end Go.Proofs.YtlbkhhbbkedhkaaGreatDoor
