/- The law EndorseReplaces: an endorsement that replaces all clauses leaves exactly its own ones in its period. No condition. -/
import Derived.Test.YtlbkhhbbkedhkaaGreatDoorRows
import Derived.Test.YtlbkhhbbkedhkaaGreatDoorRead
import Derived.Test.YtlbkhhbbkedhkaaGreatDoorMa31
import Derived.Test.YtlbkhhbbkedhkaaGreatDoorTie
import Derived.Test.YtlbkhhbbkedhkaaGreatDoorCards
import Derived.SevenTiedAt
import Derived.Test.YtlbkhhbbkedhkaaGreatDoorMa30
import Derived.WalkKit
import Derived.ProofKit
import Derived.OpenShut
import Derived.ShutString
import Derived.ChangeOld
import Derived.Below
namespace Go.Proofs.YtlbkhhbbkedhkaaGreatDoor.endorseReplaces
open Go.ChangeShapes Go.WideShapes Go.ChangeAt Go.RowKit
set_option linter.unusedVariables false

theorem own : ownKnob Tryz.prog.godebug = none := by kernel_rfl
theorem laidOut : laidOutB Tryz.prog = true := by kernel_rfl



set_option maxHeartbeats 4000000 in
set_option maxRecDepth 100000 in
theorem walk (v0 : Value) (v1 : Value) (v2 : Value) (w : World) (ht : Tab w) (h0 : Rd26 w [v0]) (h1 : Rd26 w [v1]) (h2 : Rd3 w [v2]) :
    Calls Tryz.prog 5 #[v0, v1, v2] w fun e w' => e = .returned (.bool true) ∧ Below w.heap.size w w' := by
  obtain ⟨Ad, nd, cd, fd, rfl, hnd, _, _, hd, _⟩ := rd_ints h0
  obtain ⟨Ao, no, co, fo, rfl, hno, _, _, ho, _⟩ := rd_ints h1
  obtain ⟨hr, rfl, _, _⟩ := rd_i64 h2
  have HT := Lib.hid ht
  have HDD := Lib.hid hd
  have HOO := Lib.hid ho
  clear h0 h1 h2 hd ho ht
  go_enter Tryz.func5, Tryz.ntmps5
  go_wp2_with fail
  refine (deck_new Ad nd cd fd w hnd HDD.out).mono ?_
  rintro e w1 ⟨rfl, hb, hdk⟩
  have HB := Lib.hid hb
  have HD := Lib.hid hdk
  clear hb hdk HDD
  go_wp2_with fail
  refine (schema_made 0 w1).mono ?_
  rintro e w2 ⟨As, ns, cs, ats, rfl, hs, hb2⟩
  have hlt1 := HD.out.lt
  have HS : Hid (SchIn (off w.heap.size w2) w2 As ns ats) := Lib.hid (hs.keep (fun _ _ _ => rfl) (fun i hi => ⟨by omega, hi.2⟩))
  replace HD : Hid (IsDeck w2 w.heap.size) := Lib.hid (HD.out.below hb2 hlt1)
  replace HB : Hid (Below w.heap.size w w2) := Lib.hid (HB.out.trans (hb2.mono HB.out.size))
  clear hs hb2 hlt1
  go_wp2_with fail
  refine (clauses_made w.heap.size As ns cs ats _ 6 w2 HD.out HS.out (Or.inl rfl) (by omega)).mono ?_
  rintro e w3 ⟨A1, m, c1, zs, κ, rfl, hm, hl1, hq1, hu, hk, hdk⟩
  have HL1 := Lib.hid hl1
  have HQ1 := Lib.hid hq1
  have HU1 := Lib.hid hu
  have hs23 := hk.size
  replace HB : Hid (Below w.heap.size w w3) := Lib.hid (HB.out.trans (hk.below (Nat.le_refl _) HB.out.size))
  clear hl1 hq1 hu hk hdk HD HS
  go_upto_region 3 with (fail)
  have HW := Lib.hid (Has.new w3 #[.slice A1 m c1, .slice none 0 0] 25)
  obtain ⟨G1, hG1⟩ : ∃ G, w3.heap.size = G := ⟨_, rfl⟩
  have hw3 := HB.out.size
  replace HL1 : Hid (CellsS (fun i => i < G1) (w3.alloc (.cells #[.slice A1 m c1, .slice none 0 0] 25)) A1 (m * 10) (rowF 10 clC zs)) := Lib.hid (HL1.out.keep (fun b o hS => World.cell?_alloc_old w3 _ _ (show b ≠ w3.heap.size by have := hS.2; omega)) (fun b hS => by omega))
  replace HQ1 : Hid (∀ i, i < m → clQ (fun i => i < G1) (w3.alloc (.cells #[.slice A1 m c1, .slice none 0 0] 25)) (zs i)) := Lib.hid fun i hi => clQ_moves _ _ _ _ _ (HQ1.out i hi) (fun b o hS => World.cell?_alloc_old w3 _ _ (show b ≠ w3.heap.size by have := hS.2; omega)) (fun b hS => by omega)
  replace HB : Hid (Below w.heap.size w (w3.alloc (.cells #[.slice A1 m c1, .slice none 0 0] 25))) := Lib.hid (HB.out.alloc hw3 _)
  rw [hG1] at HW hw3 hs23 ⊢
  obtain ⟨w4, hw4⟩ : ∃ W, w3.alloc (.cells #[.slice A1 m c1, .slice none 0 0] 25) = W := ⟨_, rfl⟩
  rw [hw4] at HW HL1 HQ1 HB ⊢
  clear hw4 hG1 hs23
  go_wp2_with fail
  refine (deck_new Ao no co fo w4 hno ((HOO.out.below HB.out).mono HB.out.size)).mono ?_
  rintro e w5 ⟨rfl, hb, hdk⟩
  have HB5 := Lib.hid hb
  have HD := Lib.hid hdk
  clear hb hdk HOO
  go_wp2_with fail
  refine (schema_made 0 w5).mono ?_
  rintro e w6 ⟨As, ns, cs, ats, rfl, hs, hb2⟩
  have hlt1 := HD.out.lt
  have HS : Hid (SchIn (off w4.heap.size w6) w6 As ns ats) := Lib.hid (hs.keep (fun _ _ _ => rfl) (fun i hi => ⟨by omega, hi.2⟩))
  replace HD : Hid (IsDeck w6 w4.heap.size) := Lib.hid (HD.out.below hb2 hlt1)
  replace HB5 : Hid (Below w4.heap.size w4 w6) := Lib.hid (HB5.out.trans (hb2.mono HB5.out.size))
  clear hs hb2 hlt1
  go_wp2_with fail
  refine (clauses_made w4.heap.size As ns cs ats _ 6 w6 HD.out HS.out (Or.inl rfl) (by omega)).mono ?_
  rintro e w7 ⟨A2, m2, c2, zs2, κ2, rfl, hm2, hl2, hq2, hu2, hk, hdk⟩
  have HU2 := Lib.hid hu2
  have hs67 := hk.size
  have hs46' := HB5.out.size
  replace HB5 : Hid (Below w4.heap.size w4 w7) := Lib.hid (HB5.out.trans (hk.below (Nat.le_refl _) HB5.out.size))
  have hs46 := HB5.out.size
  go_upto_region 4 with (fail)
  have HST : Hid (RepSt w G1 w7.heap.size A1 A2 m c1 m2 c2 zs zs2 none 0 0 (w7.alloc (.cells #[.int .i64 100, .int .i64 200, .slice none 0 0, .slice A2 m2 c2] 49))) := Lib.hid (by
    have hb8 : Below w4.heap.size w4 (w7.alloc (.cells #[.int .i64 100, .int .i64 200, .slice none 0 0, .slice A2 m2 c2] 49)) := HB5.out.alloc (by omega) _
    have hg1 : G1 < w4.heap.size := HW.out.lt
    exact ⟨HB.out.trans (hb8.mono HB.out.size), ⟨hw3, by omega⟩, HW.out.below hb8 hg1, Has.new _ _ _, HL1.out.keep (fun b o hS => World.cell?_of_block (w := w4) (hb8.block b (by omega))) (fun b hS => hS), fun i hi => clQ_moves _ _ _ _ _ (HQ1.out i hi) (fun b o hS => World.cell?_of_block (w := w4) (hb8.block b (by omega))) (fun b hS => hS), hl2.keep (fun b o hS => World.cell?_alloc_old w7 _ _ (show b ≠ w7.heap.size by have := hS.2; omega)) (fun b hS => by omega), fun i hi => clQ_moves _ _ _ _ _ (hq2 i hi) (fun b o hS => World.cell?_alloc_old w7 _ _ (show b ≠ w7.heap.size by have := hS.2; omega)) (fun b hS => by omega), World.ownsRow_nil _ _ _ _⟩)
  obtain ⟨G2, hG2⟩ : ∃ G, w7.heap.size = G := ⟨_, rfl⟩
  rw [hG2] at HST ⊢
  obtain ⟨w8, hw8⟩ : ∃ W, w7.alloc (.cells #[.int .i64 100, .int .i64 200, .slice none 0 0, .slice A2 m2 c2] 49) = W := ⟨_, rfl⟩
  rw [hw8] at HST ⊢
  clear hw8 hG2 hl2 hq2 hu2 hk hdk hs67 hs46 HB5 HD HS HB HL1 HQ1 HW hw3
  obtain ⟨i0, hi0, hz0, hz1, hz2⟩ := info_parts str_all
  have HI := Lib.hid hi0
  have HZ0 := Lib.hid hz0
  have HZ1 := Lib.hid hz1
  have HZ2 := Lib.hid hz2
  clear hi0 hz0 hz1 hz2
  go_wp2_with fail
  go_loopw [10] (fun kx wr => ∃ (k : Nat) (An : Option Addr) (cn : Nat), k ≤ m ∧ kx = .int .i64 k ∧ Hid (RepSt w G1 G2 A1 A2 m c1 m2 c2 zs zs2 An cn k wr)) (fun kx _ => m - (intOf kx).toNat)
  case atStart => exact ⟨0, none, 0, Nat.zero_le _, rfl, HST⟩
  case round =>
    clear HST
    obtain ⟨k, An, cn, hk, rfl, HST⟩ := hrel
    have HWD := Lib.hid HST.out.wd
    have HEN := Lib.hid HST.out.en
    obtain ⟨a0, a1, a2⟩ := HWD.out.rules
    obtain ⟨e0, e1, e2⟩ := HEN.out.rules
    by_cases hlt : k < m
    · have hk1 : (k : Int) < m := by omega
      have hk0 : (0 : Int) ≤ k := by omega
      have hg : ∃ b o, A1 = some ⟨b, o, none⟩ ∧ b < wr.heap.size ∧ wr.cell? ⟨b, o + k * 10 + 1, none⟩ = some (.string (zs k).1.name) := by
        obtain ⟨b, o, e, hb, hc⟩ := HST.out.l1 (by omega)
        have h1 := hc (k * 10 + 1) (by omega)
        rw [show rowF 10 clC zs (k * 10 + 1) = .string (zs k).1.name by unfold rowF; rw [show (k * 10 + 1) / 10 = k by omega, show (k * 10 + 1) % 10 = 1 by omega]; rfl, ← Nat.add_assoc] at h1
        exact ⟨b, o, e, by have := HST.out.ord; have := HWD.out.lt; omega, h1⟩
      obtain ⟨b, o, hA, hbl, hcn⟩ := hg
      subst hA
      have hwd2 := HWD.out.lt
      have hen2 := HEN.out.lt
      have HRW := Lib.hid HST.out.row
      have HBW : Hid (Below wr.heap.size wr wr.drew) := Lib.hid (Below.refl _ _).drew
      go_upto_region 7 with (fail)
      go_region_law (first
        | (refine step_append_lies _ (by rfl) _ _ _ (by rfl) (G2 + 1) 9 i0 _ 1 16 Tryz.underlying40 HI.out HZ0.out HZ1.out HZ2.out rfl (by omega) (.slice An k cn) k (rowL k (nmF zs)) (by rfl) ((HRW.out.alloc _).drew) ⟨wr.heap.size, 0, none⟩ 1 1 [.string (zs k).1.name] (by rfl) (by rfl) (World.news_of_block (cs := #[.string (zs k).1.name]) (t := 9) (fr := (0, 0)) (heap_alloc_new wr _)) (fun u hu => by rw [List.mem_singleton] at hu; subst hu; rfl) (by omega) (by unfold maxLen; omega) (by omega) (by simp; omega) (wr.heap.size + 1) (by simp) ?_; intro gg cap w9 hown hgrow hat hlt9; (have hgz := fun i => (World.cell?_of_block (w := wr.alloc (.cells #[.string (zs k).1.name] 9)) (a := ⟨G2, i, none⟩) (hgrow.block G2 (by simp; omega) (fun e => by have := (own_lt HRW.out e.symm).2; omega)))); (have hgf := fun i => (World.frozen?_of_block (w := wr.alloc (.cells #[.string (zs k).1.name] 9)) (a := ⟨G2, i, none⟩) (hgrow.block G2 (by simp; omega) (fun e => by have := (own_lt HRW.out e.symm).2; omega))))))
      all_goals
        have HS9 := Lib.hid (HST.out.next (W := wr.drew) HBW.out hgrow hown)
        clear hown hgrow hat hgz hgf hlt9 HST HWD HEN HRW HBW a0 a1 e0 e1
        go_wp2_with fail
        go_roundw
        case rel => exact ⟨k + 1, _, _, by omega, by go_num, HS9⟩
        case measure => simp [intOf]; omega
    · have hkm : k = m := by omega
      subst hkm
      have hd : decide ((k : Int) < k) = false := by rw [decide_eq_false_iff_not]; omega
      clear hlt
      have hg1 := HST.out.ord
      have hen2 := HEN.out.lt
      have HOK : Hid ((∀ i, i < k → ((zs i).1).ok) ∧ ∀ i, i < m2 → ((zs2 i).1).ok) := Lib.hid ⟨fun i hi => (HST.out.q1 i hi).2, fun i hi => (HST.out.q2 i hi).2⟩
      have HD1 : Hid (distN k fun i => (zs i).1) := Lib.hid (HU1.out.dist (by omega))
      have HD2 : Hid (distN m2 fun i => (zs2 i).1) := Lib.hid (HU2.out.dist (by omega))
      clear HU1 HU2 a0 a1 a2 e0 e1 e2
      obtain ⟨e0, e1, e2⟩ := HEN.out.rules
      obtain ⟨a0, a1, a2⟩ := HWD.out.rules
      go_upto_region 9 with (fail)
      have HAT := Lib.hid fun U' (hb : Below _ _ U') => HST.out.at (by omega) (by omega) rfl hb
      obtain ⟨V, hV⟩ : ∃ V, (wr.setCell ⟨G1, 1, none⟩ (.slice (some ⟨wr.heap.size, 0, none⟩) 1 1)).alloc (.cells #[.int .i64 100, .int .i64 200, .slice An k cn, .slice A2 m2 c2] 49) = V := ⟨_, rfl⟩
      rw [hV] at HAT ⊢
      obtain ⟨E, hE⟩ : ∃ E, wr.heap.size = E := ⟨_, rfl⟩
      rw [hE] at HAT
      obtain ⟨cz, hcz⟩ : ∃ z : Nat → Cl, (fun i => (zs i).1) = z := ⟨_, rfl⟩
      obtain ⟨cy, hcy⟩ : ∃ z : Nat → Cl, (fun i => (zs2 i).1) = z := ⟨_, rfl⟩
      have HOK2 : Hid ((repX k m2 cz cy).ok) := Lib.hid (by rw [← hcz, ← hcy]; exact repX_ok (by omega) (by omega) HOK.out.1 HOK.out.2 HD1.out)
      rw [hcz] at HD1
      rw [hcy] at HD2
      rw [hcz, hcy] at HAT
      have HTA := Lib.hid fun U' hb => HT.out.below (HAT.out U' hb).2.2.2.2.2 HT.out.pos
      have HIF : Hid (∀ (h : Int) (U' : World), 0 ≤ h → h ≤ 876599 → Below V.heap.size V U' → Calls Tryz.prog 11 #[.agg #[.slice A1 k c1, .slice (some ⟨E, 0, none⟩) 1 1], .int .i64 h] U' (InfP (infL (repX k m2 cz cy) (actOf (repX k m2 cz cy) h)) U')) := Lib.hid fun h U' h0 h1 hb =>
        inforce_any (repX k m2 cz cy) A1 (some ⟨E, 0, none⟩) c1 1 h U' (HTA.out U' hb) (HAT.out U' hb).1 HOK2.out (show 0 < k by omega) h0 h1
      have HRI : Hid (∀ h : Int, 100 ≤ h → h < 200 → infL (repX k m2 cz cy) (actOf (repX k m2 cz cy) h) = .ok (listC m2 cy)) := Lib.hid fun h h0 h1 => repX_in HD1.out HD2.out (by omega) h0 h1
      have HRO : Hid (∀ h : Int, h < 100 ∨ 200 ≤ h → infL (repX k m2 cz cy) (actOf (repX k m2 cz cy) h) = .ok (listC k cz)) := Lib.hid fun h h0 => repX_out HD1.out h0
      clear HOK HOK2 HD1 HD2 hcz hcy hE hV HST HWD HEN a0 a1 a2 e0 e1 e2 hg1 hen2
      have HWD := Lib.hid (HAT.out V (Below.refl _ _)).2.2.2.1
      have HEN := Lib.hid (HAT.out V (Below.refl _ _)).2.2.2.2.1
      obtain ⟨e0, e1, e2⟩ := HEN.out.rules
      obtain ⟨a0, a1, a2⟩ := HWD.out.rules
      go_wp2_with fail
      refine (within_any hr 300 _ (by omega) (by omega)).mono ?_
      rintro e w' ⟨rfl, rfl⟩
      obtain ⟨hb0, hb1⟩ := Am.within_bound hr 300 (by omega)
      obtain ⟨h, hh⟩ : ∃ z, Am.within hr 300 = z := ⟨_, rfl⟩
      rw [hh] at hb0 hb1 ⊢
      clear hh
      have HC := Lib.hid (HIF.out h V hb0 (by omega) (Below.refl _ _))
      clear HIF
      by_cases h1 : 100 ≤ h
      · by_cases h2 : h < 200
        · rw [HRI.out h h1 h2] at HC
          clear HRI HRO
          go_wp2_with fail
          refine HC.out.mono ?_
          rintro e w9 hr9
          obtain ⟨Al, cl, rfl, hcls, hb9⟩ := inf_list hr9
          obtain ⟨_, _, q2, q3, q4, q5⟩ := HAT.out w9 hb9
          have HQ := Lib.hid q2
          have HQB := Lib.hid q5
          have HTY := Lib.hid (HTA.out w9 hb9)
          have HCS := Lib.hid hcls
          clear hr9 hb9 HAT HTA HWD HEN a0 a1 a2 e0 e1 e2 q2 q5 q3 hcls HC
          obtain ⟨e0, e1, e2⟩ := q4.rules
          clear q4
          go_wp2_with fail
          refine (rsameclauses_yes Al A2 m2 cl c2 cy w9 HCS.out HQ.out).mono ?_
          rintro e w10 ⟨rfl, hb10⟩
          have HQC := Lib.hid (HQB.out.trans (hb10.mono HQB.out.size))
          have HTZ := Lib.hid (HTY.out.below hb10 HTY.out.pos)
          clear e0 e1 e2 hb10
          go_wp2_with fail
          refine (awake_any w10 HTZ.out).mono ?_
          rintro e w11 ⟨rfl, hb11⟩
          go_wp2_with fail
          go_ret
          exact ⟨rfl, HQC.out.trans (hb11.mono HQC.out.size)⟩
        · rw [HRO.out h (by omega)] at HC
          clear HRI HRO
          go_wp2_with fail
          refine HC.out.mono ?_
          rintro e w9 hr9
          obtain ⟨Al, cl, rfl, hcls, hb9⟩ := inf_list hr9
          obtain ⟨_, q2, _, q3, q4, q5⟩ := HAT.out w9 hb9
          have HQ := Lib.hid q2
          have HQB := Lib.hid q5
          have HTY := Lib.hid (HTA.out w9 hb9)
          have HCS := Lib.hid hcls
          clear hr9 hb9 HAT HTA HWD HEN a0 a1 a2 e0 e1 e2 q2 q5 q4 hcls HC
          obtain ⟨e0, e1, e2⟩ := q3.rules
          clear q3
          go_wp2_with fail
          refine (rsameclauses_yes Al A1 k cl c1 cz w9 HCS.out HQ.out).mono ?_
          rintro e w10 ⟨rfl, hb10⟩
          have HQC := Lib.hid (HQB.out.trans (hb10.mono HQB.out.size))
          have HTZ := Lib.hid (HTY.out.below hb10 HTY.out.pos)
          clear e0 e1 e2 hb10
          go_wp2_with fail
          refine (awake_any w10 HTZ.out).mono ?_
          rintro e w11 ⟨rfl, hb11⟩
          go_wp2_with fail
          go_ret
          exact ⟨rfl, HQC.out.trans (hb11.mono HQC.out.size)⟩
      · rw [HRO.out h (by omega)] at HC
        clear HRI HRO
        go_wp2_with fail
        refine HC.out.mono ?_
        rintro e w9 hr9
        obtain ⟨Al, cl, rfl, hcls, hb9⟩ := inf_list hr9
        obtain ⟨_, q2, _, q3, q4, q5⟩ := HAT.out w9 hb9
        have HQ := Lib.hid q2
        have HQB := Lib.hid q5
        have HTY := Lib.hid (HTA.out w9 hb9)
        have HCS := Lib.hid hcls
        clear hr9 hb9 HAT HTA HWD HEN a0 a1 a2 e0 e1 e2 q2 q5 q4 hcls HC
        obtain ⟨e0, e1, e2⟩ := q3.rules
        clear q3
        go_wp2_with fail
        refine (rsameclauses_yes Al A1 k cl c1 cz w9 HCS.out HQ.out).mono ?_
        rintro e w10 ⟨rfl, hb10⟩
        have HQC := Lib.hid (HQB.out.trans (hb10.mono HQB.out.size))
        have HTZ := Lib.hid (HTY.out.below hb10 HTY.out.pos)
        clear e0 e1 e2 hb10
        go_wp2_with fail
        refine (awake_any w10 HTZ.out).mono ?_
        rintro e w11 ⟨rfl, hb11⟩
        go_wp2_with fail
        go_ret
        exact ⟨rfl, HQC.out.trans (hb11.mono HQC.out.size)⟩

set_option maxRecDepth 100000 in
theorem lifted (os : Os) (started : os.Started) (H : Type) (enc : TypeId × Value → H) :
    ReturnsInHanded {} Tryz.checked os 5 .any (fun w args => (Rows.endorseReplacesSpec.pre enc Tryz.prog Tryz.f5 [] false w args ∧ laidMetH Tryz.prog opsLaid w) ∧ sizedMet enc Tryz.prog Tryz.f5 (OpenSpec.ofChange Rows.endorseReplacesSpec) false w args) (Rows.endorseReplacesSpec.post enc Tryz.prog Tryz.f5 false true false false) := by
  refine returnsInHanded_of_change_and (C := Tryz.checked) (X := fun w _ => laidMetH Tryz.prog opsLaid w) (fun _ _ _ hh h => h.of_heap hh) own started (by kernel_rfl) Tryz.func5
    (ChangeSpec.witness_shaped (enc := enc) (C := Tryz.checked) (os := os) (X := fun w _ => laidMetH Tryz.prog opsLaid w) false (World.doorLaid Tryz.prog 400 os) #[.slice none 0 0, .slice none 0 0, .int .i64 0] 8 rfl (World.shaped_of_RefB (by kernel_rfl) (by kernel_rfl)) (by kernel_rfl) (by kernel_rfl) (by kernel_rfl) (door_met os _)) ?_
  intro W base args ds gs before hval0 hW _ _ hL _
  have hval : ∀ (j : Nat) t v, Tryz.f5.params[j]? = some t → args[j]? = some v → Value.okWide Tryz.prog W .any base t v := hval0
  have hW' := hW
  obtain ⟨p, q, hA0, hV, rfl, hfz, hnd⟩ := hW
  have hA : DataW.TrodAll enc Tryz.prog W 0 (fun _ => true) true Tryz.f5.params.toList args.toList ds p := hA0
  rw [Tryz.params5] at hA hval
  obtain ⟨v0, vs0, d0, ds0, p0, q0, hargs, rfl, rfl, h0, r0⟩ := trodAll_cons hA
  obtain ⟨v1, vs1, d1, ds1, p1, q1, rfl, rfl, rfl, h1, r1⟩ := trodAll_cons r0
  obtain ⟨v2, vs2, d2, ds2, p2, q2, rfl, rfl, rfl, h2, r2⟩ := trodAll_cons r1
  obtain ⟨rfl, rfl, rfl⟩ := trodAll_nil r2
  obtain rfl : args = #[v0, v1, v2] := by cases args; simp_all
  obtain ⟨rfl, rfl⟩ := trodVars_none hV
  have k0 := h0
  have lt0 : ∀ x ∈ p0, x.block < W.heap.size := by obtain ⟨m, hm⟩ := k0; exact DataW.trod_lt m _ _ _ hm
  obtain ⟨a0, len0, cap0, rfl⟩ := okWide_slice Tryz.underlying26 (hval 0 26 v0 rfl rfl)
  have r100 : Rd26 W [.slice a0 len0 cap0] := by obtain ⟨fuel, hf⟩ := h0; exact rd26 hf
  have k1 := h1
  have lt1 : ∀ x ∈ p1, x.block < W.heap.size := by obtain ⟨m, hm⟩ := k1; exact DataW.trod_lt m _ _ _ hm
  obtain ⟨a1, len1, cap1, rfl⟩ := okWide_slice Tryz.underlying26 (hval 1 26 v1 rfl rfl)
  have r101 : Rd26 W [.slice a1 len1 cap1] := by obtain ⟨fuel, hf⟩ := h1; exact rd26 hf
  have k2 := h2
  have lt2 : ∀ x ∈ p2, x.block < W.heap.size := by obtain ⟨m, hm⟩ := k2; exact DataW.trod_lt m _ _ _ hm
  obtain ⟨a2, rfl⟩ := okWide_int Tryz.underlying3 (hval 2 3 v2 rfl rfl)
  have r102 : Rd3 W [.int .i64 a2] := by obtain ⟨fuel, hf⟩ := h2; exact rd3 hf
  clear hA0 hval0
  refine (walk _ _ _ W (tab_of_laid hL) r100 r101 r102).mono fun e W' ⟨he, bel⟩ => ?_
  subst he
  exact ⟨_, rfl, _, _, _, [], _, [], hW', trodAll_mk1 (shut_bool Tryz.underlying4 _), (trodAll_cons_mk (Below.trod laidOut (by kernel_rfl) (of_decide_eq_true (by kernel_rfl)) k0 bel lt0) (trodAll_cons_mk (Below.trod laidOut (by kernel_rfl) (of_decide_eq_true (by kernel_rfl)) k1 bel lt1) (trodAll_cons_mk (Below.trod laidOut (by kernel_rfl) (of_decide_eq_true (by kernel_rfl)) k2 bel lt2) trodAll_mk0))), rfl, bel.frame _, fun h => by cases h⟩

theorem over : Rows.endorseReplacesRow.holds Tryz.pinned (OpenSpec.ofChange Rows.endorseReplacesSpec) :=
  OpenClaim.holds_of_wide 5 Tryz.f5 rfl rfl rfl rfl rfl rfl rfl ⟨rfl, rfl, rfl, rfl, rfl⟩ rfl rfl rfl rfl rfl (by kernel_rfl) Tryz.func5 (by kernel_rfl)
    (of_decide_eq_true (by kernel_rfl)) (by unfold Func.isWrapper; first | (rw [if_pos (by decide +kernel)]; kernel_rfl) | (rw [if_neg (by decide +kernel)]; exact ⟨rfl, rfl⟩))
    (fun os started H enc _ => lifted os started H enc)

/-- the statement: the tied card -/
theorem proved : Rows.EndorseReplacesCardSaid :=
  Claim7.holds_tied_plain_at .later [] [.data] true (true, "95c76f1712f627399a8c6fef5c025c31d4f32c88ce87d29905735f8224b85ccd") false
    over (fun _ h => by cases h) (by kernel_rfl) (fun _ h => by cases h) endorseReplaces_row_tie rfl ⟨rfl, rfl⟩ (by kernel_rfl) rfl
    (fun f fn hf hfn => by
      obtain rfl : f = 5 := Option.some.inj ((show Tryz.prog.funcNamed "treaty/treatylaw09.EndorseReplaces" = some 5 by kernel_rfl).symm.trans hf) |>.symm
      obtain rfl : fn = Tryz.f5 := (Option.some.inj (Tryz.func5.symm.trans hfn)).symm
      exact ⟨by kernel_rfl, fun j t ht => by
        rw [Tryz.params5] at ht
        have hm : t ∈ [26, 26, 3] := by simpa using Array.mem_of_getElem? ht
        have hall : ([26, 26, 3].all fun u => !Tryz.prog.wantsStandIn u) = true := by kernel_rfl
        exact (show Tryz.prog.wantsStandIn t = false by simpa using List.all_eq_true.1 hall t hm)⟩)
    (by kernel_rfl)
#print axioms proved
end Go.Proofs.YtlbkhhbbkedhkaaGreatDoor.endorseReplaces
