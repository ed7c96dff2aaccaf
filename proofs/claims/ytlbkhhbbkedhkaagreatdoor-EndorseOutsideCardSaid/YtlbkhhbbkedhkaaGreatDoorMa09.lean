/- One clause: the reference's check. Periods: valid, and with an hour within; of the program and of the reference. Lists of clauses: of the program and of the reference. -/
import Derived.Test.YtlbkhhbbkedhkaaGreatDoorMa08
namespace Go.Proofs.YtlbkhhbbkedhkaaGreatDoor
open Go.RowKit
set_option linter.unusedVariables false

set_option maxRecDepth 100000 in
set_option maxHeartbeats 4000000 in
theorem rclause_any (b : Cl) (a : WA) (w : World) (h : ClAt w w.heap.size b a) : Calls Tryz.prog 57 #[.agg (b.cells a)] w (IffPost b.ok w) := by
  obtain ⟨x0, x1, x2, x3, x4, x5, hcs, hce, hc1⟩ := Cl.cells_ex b a
  obtain ⟨kd, nm, ye, yn, yu, am⟩ := b
  obtain ⟨pe, pA, pc⟩ := a
  rw [hcs]
  simp only at hce ⊢
  have HX := Lib.hid h
  have HCE := Lib.hid hce
  have HXI := Lib.hid ex_info
  have hyn : yn ≤ big := h.2.1
  unfold big at hyn
  clear h hcs hc1 hce
  obtain ⟨OK, hOK⟩ : ∃ P, (Cl.mk kd nm ye yn yu am).ok = P := ⟨_, rfl⟩
  have HQ : Hid (OK ↔ (1 ≤ kd ∧ kd ≤ 10) ∧ nameB nm = true ∧ ye.ok ∧ unP kd yn yu ∧ amtP kd am) := Lib.hid (by rw [← hOK]; exact Iff.rfl)
  rw [hOK]
  clear hOK
  go_enter Tryz.func57, Tryz.ntmps57
  go_upto_region 1 with (fail)
  have HB : Hid (Below w.heap.size w (w.alloc (.cells #[.int .i64 kd, .string nm, x0, x1, x2, x3, x4, x5, .slice pA yn pc, .int .i64 am] 46))) := Lib.hid ((Below.refl _ _).alloc (Nat.le_refl _) _)
  have HE := Lib.hid (Has.new w #[.int .i64 kd, .string nm, x0, x1, x2, x3, x4, x5, .slice pA yn pc, .int .i64 am] 46)
  obtain ⟨W, hW⟩ : ∃ W, w.alloc (.cells #[.int .i64 kd, .string nm, x0, x1, x2, x3, x4, x5, .slice pA yn pc, .int .i64 am] 46) = W := ⟨_, rfl⟩
  rw [hW] at HB HE ⊢
  clear hW
  obtain ⟨G, hG⟩ : ∃ G, w.heap.size = G := ⟨_, rfl⟩
  have HGE := Lib.hid hG
  rw [hG] at HE ⊢
  clear hG
  obtain ⟨e0, e1, e2⟩ := HE.out.rules
  have HRX : Hid (W.rangeAt G 2 [x0, x1, x2, x3, x4, x5]) := Lib.hid (range_six (by rw [HE.out.cell]; rfl) (by rw [HE.out.cell]; rfl) (by rw [HE.out.cell]; rfl) (by rw [HE.out.cell]; rfl) (by rw [HE.out.cell]; rfl) (by rw [HE.out.cell]; rfl))
  have HEV := Lib.hid (rexpr_any ye pe W (HX.out.1.below HB.out HB.out.size))
  rw [← HCE.out] at HEV
  clear HCE
  by_cases hk1 : kd < 1
  · go_wp2_with fail
    go_ret
    exact IffPost.no (fun c => by have := (HQ.out.1 c).1; omega) HB.out
  by_cases hk2 : 10 < kd
  · have hk1' : 1 ≤ kd := by omega
    go_wp2_with fail
    go_ret
    exact IffPost.no (fun c => by have := (HQ.out.1 c).1; omega) HB.out
  have hk1' : 1 ≤ kd := by omega
  have hk2' : kd ≤ 10 := by omega
  clear hk1 hk2
  cases hb : nameB nm with
  | false =>
    go_wp2_with (first | (go_at_call 81; refine (rname_any _ _).mono ?_; rintro e w' ⟨rfl, rfl⟩))
    go_ret
    exact IffPost.no (fun c => by have := (HQ.out.1 c).2.1; rw [hb] at this; cases this) HB.out
  | true =>
    go_wp2_with (first | (go_at_call 81; refine (rname_any _ _).mono ?_; rintro e w' ⟨rfl, rfl⟩) | (refine wpList_load_midw ?_ 43 (.tmp 19) ?_ G 2 ?_ _ _ HRX.out Tryz.underlying43 ?_ HXI.out ?_; rfl; rfl; rfl; rfl))
    refine HEV.out.mono ?_
    rintro e w5 ⟨b, rfl, hbe, hb5⟩
    have HBE := Lib.hid hbe
    have HNM := Lib.hid hb
    replace HB := Lib.hid (HB.out.trans (hb5.mono HB.out.size))
    replace HE := Lib.hid (HE.out.below hb5 e2)
    clear hbe hb5 HEV HRX e0 e1 e2 hb
    obtain ⟨e0, e1, e2⟩ := HE.out.rules
    cases b with
    | false =>
      go_wp2_with fail
      go_ret
      exact IffPost.no (fun c => by have := HBE.out.2 (HQ.out.1 c).2.2.1; cases this) HB.out
    | true =>
      have HQ2 : Hid (OK ↔ unP kd yn yu ∧ amtP kd am) := Lib.hid ⟨fun c => (HQ.out.1 c).2.2.2, fun c => HQ.out.2 ⟨⟨hk1', hk2'⟩, HNM.out, HBE.out.1 (by trivial), c⟩⟩
      clear HQ HBE HNM
      have hsz5 := HB.out.size
      have HXU : Hid (WbsAt w5 w5.heap.size pA yn yu) := Lib.hid (HX.out.2.below HB.out hsz5)
      obtain ⟨mz, hmz⟩ : ∃ z, mostZ kd = z := ⟨_, rfl⟩
      have CG : Hid (∀ W, Calls Tryz.prog 54 #[.int .i64 kd] W fun e w' => e = .returned (.int .i64 mz) ∧ W = w') := Lib.hid fun W => by rw [← hmz]; exact rmost_any kd W
      have HAM : Hid (amtP kd am ↔ min 1 mz ≤ am ∧ am ≤ mz) := Lib.hid (by unfold amtP; rw [hmz])
      have HMC := Lib.hid (mostZ_cases kd)
      rw [hmz] at HMC
      clear hmz
      by_cases hn : 0 < yn
      · have hn' : (0 : Int) < yn := by omega
        by_cases h3 : kd = 3
        · have h3' : (kd != 3) = false := by simpa using h3
          have H3 := Lib.hid h3
          clear h3
          have CC := Lib.hid (rcount_any (.mk nm ye yn yu) pA pc w5 HXU.out)
          have CC' : Hid (Calls Tryz.prog 88 #[.slice pA yn pc] w5 fun r w' => r = .returned (.int .i64 (min (countL yn yu) 41 : Nat)) ∧ w' = w5) := CC
          obtain ⟨cn, hcn⟩ : ∃ z, min (countL yn yu) 41 = z := ⟨_, rfl⟩
          rw [hcn] at CC'
          have HCN := Lib.hid hcn
          have CB : Hid (Calls Tryz.prog 89 #[.slice pA yn pc, .int .i64 16] w5 (IffPost (RBacksP yn yu 16) w5)) := Lib.hid (rbacks_any (.mk nm ye yn yu) pA pc 16 w5 HXU.out (by omega))
          clear hcn CC
          by_cases hc4 : 40 < cn
          · have hc4' : (40 : Int) < cn := by omega
            go_wp2_with (first | (go_at_call 88; refine CC'.out.mono ?_; rintro e w' ⟨rfl, rfl⟩))
            go_ret
            exact IffPost.no (fun c => by have := (HQ2.out.1 c).1.2.1; have := HCN.out; omega) HB.out
          have hc4' : (cn : Int) ≤ 40 := by omega
          go_wp2_with (first | (go_at_call 88; refine CC'.out.mono ?_; rintro e w' ⟨rfl, rfl⟩))
          refine CB.out.mono ?_
          rintro e w6 ⟨b, rfl, hbe, hb6⟩
          have HBB := Lib.hid hbe
          replace HB := Lib.hid (HB.out.trans (hb6.mono HB.out.size))
          replace HE := Lib.hid (HE.out.below hb6 e2)
          clear hbe hb6 CB CC' HXU e0 e1 e2
          obtain ⟨e0, e1, e2⟩ := HE.out.rules
          cases b with
          | false =>
            go_wp2_with fail
            go_ret
            exact IffPost.no (fun c => by
              have h7 := (HQ2.out.1 c).1
              have := HBB.out.2 ⟨h7.2.2.1, h7.2.2.2⟩
              cases this) HB.out
          | true =>
            have HQ6 : Hid (OK ↔ min 1 mz ≤ am ∧ am ≤ mz) := Lib.hid ⟨fun c => HAM.out.1 (HQ2.out.1 c).2, fun c => HQ2.out.2 ⟨⟨.inl H3.out, by have := HCN.out; omega, (HBB.out.1 (by trivial)).1, (HBB.out.1 (by trivial)).2⟩, HAM.out.2 c⟩⟩
            clear HQ2 HAM HBB HCN
            go_upto_region 6 with (first | (go_at_call 54; refine (CG.out _).mono ?_; rintro e w' ⟨rfl, rfl⟩))
            have HM := HMC.out
            have hm9 : mz = 0 ∨ (0 < mz) := by omega
            clear HM HMC
            rcases hm9 with hm9 | hm9
            · have hm0 : (mz == 0) = true := by rw [hm9]; rfl
              have hm0'' : mz ≤ 0 := by omega
              by_cases ha : am = 0
              · have ha' : (am == 0) = true := by rw [ha]; rfl
                have HYES := Lib.hid (HQ6.out.2 (by omega))
                clear ha hm9
                go_wp2_with fail
                go_ret
                exact IffPost.yes HYES.out HB.out
              · have ha' : (am == 0) = false := by rw [beq_eq_false_iff_ne]; exact ha
                have HNO : Hid (¬ OK) := Lib.hid (fun c => by have := HQ6.out.1 c; omega)
                clear ha hm9
                go_wp2_with fail
                go_ret
                exact ⟨_, rfl, ⟨fun c => absurd c (by first | (simp; done) | (simp; omega) | (rw [ha']; simp)), fun c => absurd c HNO.out⟩, HB.out⟩
            · have hm0 : (mz == 0) = false := by rw [beq_eq_false_iff_ne]; omega
              by_cases ha : 1 ≤ am
              · by_cases ha2 : am ≤ mz
                · have HYES := Lib.hid (HQ6.out.2 (by omega))
                  go_wp2_with fail
                  go_ret
                  exact ⟨_, rfl, ⟨fun _ => HYES.out, fun _ => by first | rfl | (simp; done) | (simp; omega)⟩, HB.out⟩
                · have HNO : Hid (¬ OK) := Lib.hid (fun c => by have := HQ6.out.1 c; omega)
                  have ha3 : mz < am := by omega
                  go_wp2_with fail
                  go_ret
                  exact ⟨_, rfl, ⟨fun c => absurd c (by first | (simp; done) | (simp; omega)), fun c => absurd c HNO.out⟩, HB.out⟩
              · have HNO : Hid (¬ OK) := Lib.hid (fun c => by have := HQ6.out.1 c; omega)
                have ha3 : am < 1 := by omega
                go_wp2_with fail
                go_ret
                exact ⟨_, rfl, ⟨fun c => absurd c (by first | (simp; done) | (simp; omega) | (rw [ha']; simp)), fun c => absurd c HNO.out⟩, HB.out⟩
        · have h3' : (kd != 3) = true := by simpa using h3
          go_wp2_with fail
          go_ret
          exact IffPost.no (fun c => by have := (HQ2.out.1 c).1.1; omega) HB.out
      · have hn' : (yn : Int) ≤ 0 := by omega
        go_upto_region 6 with (first | (go_at_call 54; refine (CG.out _).mono ?_; rintro e w' ⟨rfl, rfl⟩))
        have HQ6 : Hid (OK ↔ min 1 mz ≤ am ∧ am ≤ mz) := Lib.hid ⟨fun c => HAM.out.1 (HQ2.out.1 c).2, fun c => HQ2.out.2 ⟨⟨.inr (by omega), by rw [show yn = 0 by omega]; exact Nat.zero_le _, by rw [show yn = 0 by omega]; exact Nat.zero_le _, fun i hi => by omega⟩, HAM.out.2 c⟩⟩
        clear HQ2 HAM
        have HM := HMC.out
        have hm9 : mz = 0 ∨ (0 < mz) := by omega
        clear HM HMC
        rcases hm9 with hm9 | hm9
        · have hm0 : (mz == 0) = true := by rw [hm9]; rfl
          have hm0'' : mz ≤ 0 := by omega
          by_cases ha : am = 0
          · have ha' : (am == 0) = true := by rw [ha]; rfl
            have HYES := Lib.hid (HQ6.out.2 (by omega))
            clear ha hm9
            go_wp2_with fail
            go_ret
            exact IffPost.yes HYES.out HB.out
          · have ha' : (am == 0) = false := by rw [beq_eq_false_iff_ne]; exact ha
            have HNO : Hid (¬ OK) := Lib.hid (fun c => by have := HQ6.out.1 c; omega)
            clear ha hm9
            go_wp2_with fail
            go_ret
            exact ⟨_, rfl, ⟨fun c => absurd c (by first | (simp; done) | (simp; omega) | (rw [ha']; simp)), fun c => absurd c HNO.out⟩, HB.out⟩
        · have hm0 : (mz == 0) = false := by rw [beq_eq_false_iff_ne]; omega
          by_cases ha : 1 ≤ am
          · by_cases ha2 : am ≤ mz
            · have HYES := Lib.hid (HQ6.out.2 (by omega))
              go_wp2_with fail
              go_ret
              exact ⟨_, rfl, ⟨fun _ => HYES.out, fun _ => by first | rfl | (simp; done) | (simp; omega)⟩, HB.out⟩
            · have HNO : Hid (¬ OK) := Lib.hid (fun c => by have := HQ6.out.1 c; omega)
              have ha3 : mz < am := by omega
              go_wp2_with fail
              go_ret
              exact ⟨_, rfl, ⟨fun c => absurd c (by first | (simp; done) | (simp; omega)), fun c => absurd c HNO.out⟩, HB.out⟩
          · have HNO : Hid (¬ OK) := Lib.hid (fun c => by have := HQ6.out.1 c; omega)
            have ha3 : am < 1 := by omega
            go_wp2_with fail
            go_ret
            exact ⟨_, rfl, ⟨fun c => absurd c (by first | (simp; done) | (simp; omega) | (rw [ha']; simp)), fun c => absurd c HNO.out⟩, HB.out⟩
end Go.Proofs.YtlbkhhbbkedhkaaGreatDoor
namespace Go.Proofs.YtlbkhhbbkedhkaaGreatDoor
open Go.RowKit
set_option linter.unusedVariables false

/-- a truth that is returned; memory is made and nothing else changes -/
def BolPost (b : Bool) (w : World) (e : Ending) (w' : World) : Prop := e = .returned (.bool b) ∧ Below w.heap.size w w'
theorem ret_bol {a b : Bool} (h : a = b) : Ending.returned (.bool a) = .returned (.bool b) := by rw [h]
def perB (a b : Int) : Bool := decide (0 ≤ a ∧ a < b ∧ b ≤ 876600)
def inB' (a b h : Int) : Bool := decide ((0 ≤ a ∧ a < b ∧ b ≤ 876600) ∧ a ≤ h ∧ h < b)
def hourB (h : Int) : Bool := decide (0 ≤ h ∧ h ≤ 876599)

set_option maxHeartbeats 1000000 in
theorem period_any (a b : Int) (w : World) : Calls Tryz.prog 48 #[.agg #[.int .i64 a, .int .i64 b]] w (BolPost (perB a b) w) := by
  have hf : ¬ (0 ≤ a ∧ a < b ∧ b ≤ 876600) → Hid (false = perB a b) := fun h => Lib.hid (decide_eq_false h).symm
  have ht : (0 ≤ a ∧ a < b ∧ b ≤ 876600) → Hid (true = perB a b) := fun h => Lib.hid (decide_eq_true h).symm
  by_cases h0 : 0 ≤ a
  · by_cases h1 : a < b
    · by_cases h2 : b ≤ 876600
      · have HG := ht ⟨h0, h1, h2⟩
        clear hf ht
        go_enter Tryz.func48, Tryz.ntmps48
        go_wp2_with fail
        go_ret
        exact ⟨ret_bol HG.out, (Below.refl _ _).alloc (Nat.le_refl _) _⟩
      · have HG := hf (by omega)
        clear hf ht
        go_enter Tryz.func48, Tryz.ntmps48
        go_wp2_with fail
        go_ret
        exact ⟨ret_bol HG.out, (Below.refl _ _).alloc (Nat.le_refl _) _⟩
    · have HG := hf (by omega)
      clear hf ht
      go_enter Tryz.func48, Tryz.ntmps48
      go_wp2_with fail
      go_ret
      exact ⟨ret_bol HG.out, (Below.refl _ _).alloc (Nat.le_refl _) _⟩
  · have HG := hf (by omega)
    clear hf ht
    go_enter Tryz.func48, Tryz.ntmps48
    go_wp2_with fail
    go_ret
    exact ⟨ret_bol HG.out, (Below.refl _ _).alloc (Nat.le_refl _) _⟩

set_option maxHeartbeats 1000000 in
theorem rperiod_any (a b : Int) (w : World) : Calls Tryz.prog 45 #[.agg #[.int .i64 a, .int .i64 b]] w (BolPost (perB a b) w) := by
  have hf : ¬ (0 ≤ a ∧ a < b ∧ b ≤ 876600) → Hid (false = perB a b) := fun h => Lib.hid (decide_eq_false h).symm
  have ht : (0 ≤ a ∧ a < b ∧ b ≤ 876600) → Hid (true = perB a b) := fun h => Lib.hid (decide_eq_true h).symm
  by_cases h0 : 0 ≤ a
  · by_cases h1 : a < b
    · by_cases h2 : b ≤ 876600
      · have HG := ht ⟨h0, h1, h2⟩
        clear hf ht
        go_enter Tryz.func45, Tryz.ntmps45
        go_wp2_with fail
        go_ret
        exact ⟨ret_bol HG.out, (Below.refl _ _).alloc (Nat.le_refl _) _⟩
      · have HG := hf (by omega)
        clear hf ht
        go_enter Tryz.func45, Tryz.ntmps45
        go_wp2_with fail
        go_ret
        exact ⟨ret_bol HG.out, (Below.refl _ _).alloc (Nat.le_refl _) _⟩
    · have HG := hf (by omega)
      clear hf ht
      go_enter Tryz.func45, Tryz.ntmps45
      go_wp2_with fail
      go_ret
      exact ⟨ret_bol HG.out, (Below.refl _ _).alloc (Nat.le_refl _) _⟩
  · have HG := hf (by omega)
    clear hf ht
    go_enter Tryz.func45, Tryz.ntmps45
    go_wp2_with fail
    go_ret
    exact ⟨ret_bol HG.out, (Below.refl _ _).alloc (Nat.le_refl _) _⟩

set_option maxHeartbeats 1000000 in
theorem contains_any (a b h : Int) (w : World) : Calls Tryz.prog 27 #[.agg #[.int .i64 a, .int .i64 b], .int .i64 h] w (BolPost (inB' a b h) w) := by
  have hf : ¬ ((0 ≤ a ∧ a < b ∧ b ≤ 876600) ∧ a ≤ h ∧ h < b) → Hid (false = inB' a b h) := fun h => Lib.hid (decide_eq_false h).symm
  have ht : ((0 ≤ a ∧ a < b ∧ b ≤ 876600) ∧ a ≤ h ∧ h < b) → Hid (true = inB' a b h) := fun h => Lib.hid (decide_eq_true h).symm
  obtain ⟨pb, hpb⟩ : ∃ z, perB a b = z := ⟨_, rfl⟩
  have C1 : Hid (∀ W, Calls Tryz.prog 48 #[.agg #[.int .i64 a, .int .i64 b]] W (BolPost pb W)) := Lib.hid fun W => by rw [← hpb]; exact period_any a b W
  have HPB : Hid (pb = true ↔ (0 ≤ a ∧ a < b ∧ b ≤ 876600)) := Lib.hid (by rw [← hpb]; exact decide_eq_true_iff)
  have HX := Lib.hid (Has.new w #[.int .i64 a, .int .i64 b] 38)
  have HB := Lib.hid ((Below.refl w.heap.size w).alloc (Nat.le_refl _) (.cells #[.int .i64 a, .int .i64 b] 38))
  clear hpb
  cases pb with
  | false =>
    have HG := hf (fun c => by have := HPB.out.2 c.1; cases this)
    clear hf ht HPB
    go_enter Tryz.func27, Tryz.ntmps27
    go_wp2_with fail
    refine (C1.out _).mono ?_
    rintro e w1 ⟨rfl, hb⟩
    replace HB : Hid (Below w.heap.size w w1) := Lib.hid (HB.out.trans (hb.mono HB.out.size))
    clear hb C1 HX
    go_wp2_with fail
    go_ret
    exact ⟨ret_bol HG.out, HB.out⟩
  | true =>
    have hp : 0 ≤ a ∧ a < b ∧ b ≤ 876600 := HPB.out.1 (by trivial)
    by_cases h1 : a ≤ h
    · by_cases h2 : h < b
      · have HG := ht ⟨hp, h1, h2⟩
        clear hf ht HPB hp
        go_enter Tryz.func27, Tryz.ntmps27
        go_wp2_with fail
        refine (C1.out _).mono ?_
        rintro e w1 ⟨rfl, hb⟩
        replace HX := Lib.hid (HX.out.below hb HX.out.lt)
        replace HB : Hid (Below w.heap.size w w1) := Lib.hid (HB.out.trans (hb.mono HB.out.size))
        clear hb C1
        obtain ⟨c0, c1, c2⟩ := HX.out.rules
        go_wp2_with fail
        go_ret
        exact ⟨ret_bol HG.out, HB.out⟩
      · have HG := hf (by omega)
        have h2' : b ≤ h := by omega
        clear hf ht HPB hp
        go_enter Tryz.func27, Tryz.ntmps27
        go_wp2_with fail
        refine (C1.out _).mono ?_
        rintro e w1 ⟨rfl, hb⟩
        replace HX := Lib.hid (HX.out.below hb HX.out.lt)
        replace HB : Hid (Below w.heap.size w w1) := Lib.hid (HB.out.trans (hb.mono HB.out.size))
        clear hb C1
        obtain ⟨c0, c1, c2⟩ := HX.out.rules
        go_wp2_with fail
        go_ret
        exact ⟨ret_bol (by rw [← HG.out]; simp; omega), HB.out⟩
    · have HG := hf (by omega)
      have h1' : h < a := by omega
      clear hf ht HPB hp
      go_enter Tryz.func27, Tryz.ntmps27
      go_wp2_with fail
      refine (C1.out _).mono ?_
      rintro e w1 ⟨rfl, hb⟩
      replace HX := Lib.hid (HX.out.below hb HX.out.lt)
      replace HB : Hid (Below w.heap.size w w1) := Lib.hid (HB.out.trans (hb.mono HB.out.size))
      clear hb C1
      obtain ⟨c0, c1, c2⟩ := HX.out.rules
      go_wp2_with fail
      go_ret
      exact ⟨ret_bol HG.out, HB.out⟩

set_option maxHeartbeats 1000000 in
theorem rcontains_any (a b h : Int) (w : World) : Calls Tryz.prog 95 #[.agg #[.int .i64 a, .int .i64 b], .int .i64 h] w (BolPost (inB' a b h) w) := by
  have hf : ¬ ((0 ≤ a ∧ a < b ∧ b ≤ 876600) ∧ a ≤ h ∧ h < b) → Hid (false = inB' a b h) := fun h => Lib.hid (decide_eq_false h).symm
  have ht : ((0 ≤ a ∧ a < b ∧ b ≤ 876600) ∧ a ≤ h ∧ h < b) → Hid (true = inB' a b h) := fun h => Lib.hid (decide_eq_true h).symm
  obtain ⟨pb, hpb⟩ : ∃ z, perB a b = z := ⟨_, rfl⟩
  have C1 : Hid (∀ W, Calls Tryz.prog 45 #[.agg #[.int .i64 a, .int .i64 b]] W (BolPost pb W)) := Lib.hid fun W => by rw [← hpb]; exact rperiod_any a b W
  have HPB : Hid (pb = true ↔ (0 ≤ a ∧ a < b ∧ b ≤ 876600)) := Lib.hid (by rw [← hpb]; exact decide_eq_true_iff)
  have HX := Lib.hid (Has.new w #[.int .i64 a, .int .i64 b] 38)
  have HB := Lib.hid ((Below.refl w.heap.size w).alloc (Nat.le_refl _) (.cells #[.int .i64 a, .int .i64 b] 38))
  clear hpb
  cases pb with
  | false =>
    have HG := hf (fun c => by have := HPB.out.2 c.1; cases this)
    clear hf ht HPB
    go_enter Tryz.func95, Tryz.ntmps95
    go_wp2_with fail
    refine (C1.out _).mono ?_
    rintro e w1 ⟨rfl, hb⟩
    replace HB : Hid (Below w.heap.size w w1) := Lib.hid (HB.out.trans (hb.mono HB.out.size))
    clear hb C1 HX
    go_wp2_with fail
    go_ret
    exact ⟨ret_bol HG.out, HB.out⟩
  | true =>
    have hp : 0 ≤ a ∧ a < b ∧ b ≤ 876600 := HPB.out.1 (by trivial)
    by_cases h1 : a ≤ h
    · by_cases h2 : h < b
      · have HG := ht ⟨hp, h1, h2⟩
        clear hf ht HPB hp
        go_enter Tryz.func95, Tryz.ntmps95
        go_wp2_with fail
        refine (C1.out _).mono ?_
        rintro e w1 ⟨rfl, hb⟩
        replace HX := Lib.hid (HX.out.below hb HX.out.lt)
        replace HB : Hid (Below w.heap.size w w1) := Lib.hid (HB.out.trans (hb.mono HB.out.size))
        clear hb C1
        obtain ⟨c0, c1, c2⟩ := HX.out.rules
        go_wp2_with fail
        go_ret
        exact ⟨ret_bol HG.out, HB.out⟩
      · have HG := hf (by omega)
        have h2' : b ≤ h := by omega
        clear hf ht HPB hp
        go_enter Tryz.func95, Tryz.ntmps95
        go_wp2_with fail
        refine (C1.out _).mono ?_
        rintro e w1 ⟨rfl, hb⟩
        replace HX := Lib.hid (HX.out.below hb HX.out.lt)
        replace HB : Hid (Below w.heap.size w w1) := Lib.hid (HB.out.trans (hb.mono HB.out.size))
        clear hb C1
        obtain ⟨c0, c1, c2⟩ := HX.out.rules
        go_wp2_with fail
        go_ret
        exact ⟨ret_bol (by rw [← HG.out]; simp; omega), HB.out⟩
    · have HG := hf (by omega)
      have h1' : h < a := by omega
      clear hf ht HPB hp
      go_enter Tryz.func95, Tryz.ntmps95
      go_wp2_with fail
      refine (C1.out _).mono ?_
      rintro e w1 ⟨rfl, hb⟩
      replace HX := Lib.hid (HX.out.below hb HX.out.lt)
      replace HB : Hid (Below w.heap.size w w1) := Lib.hid (HB.out.trans (hb.mono HB.out.size))
      clear hb C1
      obtain ⟨c0, c1, c2⟩ := HX.out.rules
      go_wp2_with fail
      go_ret
      exact ⟨ret_bol HG.out, HB.out⟩

theorem rhours_any (h : Int) (w : World) : Calls Tryz.prog 94 #[.int .i64 h] w fun e w' => e = .returned (.bool (hourB h)) ∧ w = w' := by
  by_cases h0 : 0 ≤ h
  · by_cases h1 : h ≤ 876599
    · go_enter Tryz.func94, Tryz.ntmps94
      go_wp2_with fail
      go_ret
      exact ⟨ret_bol (by unfold hourB; simp [h0, h1]), rfl⟩
    · go_enter Tryz.func94, Tryz.ntmps94
      go_wp2_with fail
      go_ret
      exact ⟨ret_bol (by unfold hourB; simp; omega), rfl⟩
  · go_enter Tryz.func94, Tryz.ntmps94
    go_wp2_with fail
    go_ret
    exact ⟨ret_bol (by unfold hourB; simp; omega), rfl⟩
end Go.Proofs.YtlbkhhbbkedhkaaGreatDoor
namespace Go.Proofs.YtlbkhhbbkedhkaaGreatDoor
open Go.RowKit
set_option linter.unusedVariables false

def clsP (n : Nat) (cs : Nat → Cl) : Prop := n ≤ 40 ∧ ∀ i, i < n → (cs i).ok
/-- a clause of a list, in a later world -/
theorem ClsAt.later {w wr : World} {B B' : Nat} {A : Option Addr} {n : Nat} {cs : Nat → Cl} (h : ClsAt w B A n cs) (hb : Below B w wr) (hB : B ≤ B') {k : Nat} (hk : k < n) :
    ∃ pa b o, A = some ⟨b, o, none⟩ ∧ b < B ∧ ClAt wr B' (cs k) pa ∧ wr.rangeAt b (o + k * 10) ((cs k).cells pa).toList := by
  obtain ⟨_, P, hc, he⟩ := h
  obtain ⟨b, o, e, hbl, hcc⟩ := Cells.elem (F := fun i k => (cs i).cell (P i) k) (by omega) hc hk
  exact ⟨P k, b, o, e, hbl, (he k hk).below hb hB, Cl.range fun j hj => by rw [hb.cell (p := ⟨b, o + k * 10 + j, none⟩) hbl]; exact hcc j hj⟩

set_option maxRecDepth 100000 in
set_option maxHeartbeats 2000000 in
theorem clauses_any (A : Option Addr) (n c : Nat) (cs : Nat → Cl) (w : World) (ht : Tab w) (h : ClsAt w w.heap.size A n cs) : Calls Tryz.prog 40 #[.slice A n c] w (IffPost (clsP n cs) w) := by
  have HTB := Lib.hid ht
  have HX := Lib.hid h
  have HCI := Lib.hid cl_info
  have hpos := ht.pos
  have hn := h.1
  unfold big at hn
  clear ht h
  by_cases h4 : 40 < n
  · have h4' : (40 : Int) < n := by omega
    go_enter Tryz.func40, Tryz.ntmps40
    go_wp2_with fail
    go_ret
    exact IffPost.no (fun c => by have := c.1; omega) (Below.refl _ _)
  have h4' : (n : Int) ≤ 40 := by omega
  go_enter Tryz.func40, Tryz.ntmps40
  go_wp2_with fail
  go_loopw [10] (fun i wr => ∃ k : Nat, k ≤ n ∧ i = .int .i64 k ∧ Hid (Below w.heap.size w wr) ∧ Hid (∀ i, i < k → (cs i).ok)) (fun i _ => n - (intOf i).toNat)
  case atStart => exact ⟨0, Nat.zero_le _, rfl, Lib.hid (Below.refl _ _), Lib.hid fun i hi => by omega⟩
  case round =>
    obtain ⟨k, hk, rfl, HB, HA⟩ := hrel
    by_cases hlt : k < n
    · obtain ⟨pa, bb, o, hAa, _, hxk, hrg⟩ := HX.out.later HB.out HB.out.size hlt
      subst hAa
      have HRG := Lib.hid hrg
      have HC1 := Lib.hid (Cl.cells_one (cs k) pa)
      have HXK := Lib.hid hxk
      have HCS : Hid (((cs k).cells pa).size = 10) := Lib.hid rfl
      have HCALL : Hid (∀ W, Below wr.heap.size wr W → Calls Tryz.prog 67 #[.agg ((cs k).cells pa)] W (IffPost (cs k).ok W)) := Lib.hid fun W hb => clause_any (cs k) pa W (HTB.out.below (HB.out.trans (hb.mono HB.out.size)) hpos) (hxk.below hb hb.size)
      obtain ⟨y, hy⟩ : ∃ y, cs k = y := ⟨_, rfl⟩
      have HYY := Lib.hid hy
      rw [hy] at HRG HC1 HCALL HCS
      obtain ⟨Y, hY⟩ : ∃ Y, y.cells pa = Y := ⟨_, rfl⟩
      rw [hY] at HRG HC1 HCALL HCS
      have hk0 : (0 : Int) ≤ k := by omega
      have hk1 : (k : Int) < n := by omega
      clear hxk hrg hy hY HXK
      go_upto_region 6 with (first
        | (refine wpList_load_mid ?_ 46 (.tmp 12) ?_ bb (o + k * 10) ?_ _ _ HRG.out Tryz.underlying46 ?_ (by rw [Array.length_toList, HCS.out]; exact HCI.out) ?_; rfl; rfl; rfl; rfl)
        | (refine wpList_store_has ?_ 46 (.tmp 4) (.tmp 13) ?_ wr.heap.size ?_ Y ?_ _ _ (Has.new wr _ _) (by rw [HCS.out]; exact HCI.out) (by rw [HCS.out]; rfl) HC1.out ?_; rfl; rfl; rfl; rfl; intro w4 hh4 hl4))
      have hb4 : Below wr.heap.size wr w4 := ((Below.refl _ _).alloc (Nat.le_refl _) _).trans (hl4.below (fun k hk => by omega) (by simp))
      have HY := Lib.hid hh4
      have HC := Lib.hid (HCALL.out w4 hb4)
      have hs := HB.out.size
      replace HB : Hid (Below w.heap.size w w4) := Lib.hid (HB.out.trans (hb4.mono hs))
      obtain ⟨G, hG⟩ : ∃ G, wr.heap.size = G := ⟨_, rfl⟩
      rw [hG] at HY ⊢
      clear hG hb4 hh4 hl4 HRG HCALL HC1 hs
      go_wp2_with ((refine wpList_load_has ?_ 46 (.tmp 4) ?_ G ?_ _ _ _ HY.out Tryz.underlying46 ?_ (by rw [HCS.out]; exact HCI.out) ?_; rfl; rfl; rfl; rfl))
      refine HC.out.mono ?_
      rintro e w5 ⟨b, rfl, hbe, hb5⟩
      have HBE := Lib.hid hbe
      replace HB : Hid (Below w.heap.size w w5) := Lib.hid (HB.out.trans (hb5.mono HB.out.size))
      clear hbe hb5 HC HY
      cases b with
      | false =>
        go_wp2_with fail
        go_ret
        exact IffPost.no (fun c => by have := c.2 k hlt; rw [HYY.out] at this; have := HBE.out.2 this; cases this) HB.out
      | true =>
        have hp := HBE.out.1 (by trivial)
        have HP := Lib.hid hp
        clear hp HBE
        go_wp2_with fail
        go_roundw
        case rel => exact ⟨k + 1, by omega, by go_num, HB, Lib.hid fun i hi => by
          by_cases e : i = k
          · subst e; rw [HYY.out]; exact HP.out
          · exact HA.out i (by omega)⟩
        case measure => simp [intOf]; omega
    · have hkn : k = n := by omega
      subst hkn
      have hdd : decide ((k : Int) < k) = false := by rw [decide_eq_false_iff_not]; omega
      go_wp2_with fail
      go_ret
      exact IffPost.yes ⟨by omega, HA.out⟩ HB.out

set_option maxRecDepth 100000 in
set_option maxHeartbeats 2000000 in
theorem rclauses_any (A : Option Addr) (n c : Nat) (cs : Nat → Cl) (w : World) (h : ClsAt w w.heap.size A n cs) : Calls Tryz.prog 44 #[.slice A n c] w (IffPost (clsP n cs) w) := by
  have HX := Lib.hid h
  have HCI := Lib.hid cl_info
  have hn := h.1
  unfold big at hn
  clear h
  by_cases h4 : 40 < n
  · have h4' : (40 : Int) < n := by omega
    go_enter Tryz.func44, Tryz.ntmps44
    go_wp2_with fail
    go_ret
    exact IffPost.no (fun c => by have := c.1; omega) (Below.refl _ _)
  have h4' : (n : Int) ≤ 40 := by omega
  go_enter Tryz.func44, Tryz.ntmps44
  go_wp2_with fail
  go_loopw [3] (fun i wr => ∃ k : Nat, k ≤ n ∧ i = .int .i64 k ∧ Hid (Below w.heap.size w wr) ∧ Hid (∀ i, i < k → (cs i).ok)) (fun i _ => n - (intOf i).toNat)
  case atStart => exact ⟨0, Nat.zero_le _, rfl, Lib.hid (Below.refl _ _), Lib.hid fun i hi => by omega⟩
  case round =>
    obtain ⟨k, hk, rfl, HB, HA⟩ := hrel
    by_cases hlt : k < n
    · obtain ⟨pa, bb, o, hAa, _, hxk, hrg⟩ := HX.out.later HB.out HB.out.size hlt
      subst hAa
      have HRG := Lib.hid hrg
      have HCS : Hid (((cs k).cells pa).size = 10) := Lib.hid rfl
      have HCALL := Lib.hid (rclause_any (cs k) pa wr hxk)
      obtain ⟨y, hy⟩ : ∃ y, cs k = y := ⟨_, rfl⟩
      have HYY := Lib.hid hy
      rw [hy] at HRG HCALL HCS
      obtain ⟨Y, hY⟩ : ∃ Y, y.cells pa = Y := ⟨_, rfl⟩
      rw [hY] at HRG HCALL HCS
      have hk0 : (0 : Int) ≤ k := by omega
      have hk1 : (k : Int) < n := by omega
      clear hxk hrg hy hY
      go_wp2_with ((refine wpList_load_mid ?_ 46 (.tmp 15) ?_ bb (o + k * 10) ?_ _ _ HRG.out Tryz.underlying46 ?_ (by rw [Array.length_toList, HCS.out]; exact HCI.out) ?_; rfl; rfl; rfl; rfl))
      refine HCALL.out.mono ?_
      rintro e w5 ⟨b, rfl, hbe, hb5⟩
      have HBE := Lib.hid hbe
      replace HB : Hid (Below w.heap.size w w5) := Lib.hid (HB.out.trans (hb5.mono HB.out.size))
      clear hbe hb5 HCALL HRG
      cases b with
      | false =>
        go_wp2_with fail
        go_ret
        exact IffPost.no (fun c => by have := c.2 k hlt; rw [HYY.out] at this; have := HBE.out.2 this; cases this) HB.out
      | true =>
        have hp := HBE.out.1 (by trivial)
        have HP := Lib.hid hp
        clear hp HBE
        go_wp2_with fail
        go_roundw
        case rel => exact ⟨k + 1, by omega, by go_num, HB, Lib.hid fun i hi => by
          by_cases e : i = k
          · subst e; rw [HYY.out]; exact HP.out
          · exact HA.out i (by omega)⟩
        case measure => simp [intOf]; omega
    · have hkn : k = n := by omega
      subst hkn
      have hdd : decide ((k : Int) < k) = false := by rw [decide_eq_false_iff_not]; omega
      go_wp2_with fail
      go_ret
      exact IffPost.yes ⟨by omega, HA.out⟩ HB.out
end Go.Proofs.YtlbkhhbbkedhkaaGreatDoor
