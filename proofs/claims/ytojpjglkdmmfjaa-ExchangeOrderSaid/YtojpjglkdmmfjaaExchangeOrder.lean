/- The law ExchangeOrder: the first error of a table is found, wherever one rate is spoilt. No condition. -/
import Derived.Test.YtojpjglkdmmfjaaRows
import Derived.Test.YtojpjglkdmmfjaaRead
import Derived.Test.YtojpjglkdmmfjaaXcO
import Derived.Test.YtojpjglkdmmfjaaArgs4
import Derived.Deep.RegionLaw
import Derived.Deep.CutBlock
import Derived.WalkKit
import Derived.ProofKit
import Derived.OpenShut
import Derived.ShutString
import Derived.ChangeOld
import Derived.Below
namespace Go.Proofs.Ytojpjglkdmmfjaa.exchangeOrder
open Go.ChangeShapes Go.WideShapes Go.ChangeAt Go.RowKit
set_option linter.unusedVariables false

theorem own : ownKnob Try.prog.godebug = none := by kernel_rfl
theorem laidOut : laidOutB Try.prog = true := by kernel_rfl



set_option maxHeartbeats 4000000 in
set_option maxRecDepth 100000 in
theorem walk (v0 : Value) (v1 : Value) (c2 : List Value) (w : World) (h0 : Rd22 w [v0]) (h1 : Rd3 w [v1]) (h2 : Rd24 w c2) :
    Calls Try.prog 3 #[v0, v1, .agg c2.toArray] w fun e w' => e = .returned (.bool true) ∧ Below w.heap.size w w' := by
  obtain ⟨A, n, c, z, rfl, hn, _, _, hc, _⟩ := rd_ints h0
  obtain ⟨at', rfl, _, _⟩ := rd_i64 h1
  obtain ⟨_, _, _, rfl, r0, r1, r2⟩ := h2
  obtain ⟨x0, rfl, _, _⟩ := rd_i64 r0
  obtain ⟨x1, rfl, _, _⟩ := rd_i64 r1
  obtain ⟨x2, rfl, _, _⟩ := rd_i64 r2
  have HC := Lib.hid hc
  clear h0 h1 hc r0 r1 r2
  obtain ⟨i0, hi0, hz0, hz1, hz2⟩ := info_parts rate_info
  have HI := Lib.hid hi0
  have HZ0 := Lib.hid hz0
  have HZ1 := Lib.hid hz1
  have HZ2 := Lib.hid hz2
  clear hi0 hz0 hz1 hz2
  obtain ⟨W0, hW0⟩ : ∃ W, w.alloc (.cells #[.int .i64 x0, .int .i64 x1, .int .i64 x2] 24) = W := ⟨_, rfl⟩
  have HB : Hid (Below w.heap.size w W0) := Lib.hid (by rw [← hW0]; exact (by (repeat' (first | (with_reducible exact Below.refl _ _) | (with_reducible refine Below.setCell ?_ ?_ _) | (with_reducible refine below_drewN ?_ _) | (with_reducible refine Below.drew ?_) | (with_reducible refine Below.alloc ?_ ?_ _))) <;> (first | omega | (simp <;> omega))))
  have HX : Hid (Has W0 w.heap.size #[.int .i64 x0, .int .i64 x1, .int .i64 x2] 24) := Lib.hid (by rw [← hW0]; exact Has.new w _ _)
  have hsz := HX.out.lt
  go_enter Try.func3, Try.ntmps3
  go_wp2_with fail
  clear hW0
  refine (deck_new A n c z W0 hn ((HC.out.below HB.out).mono HB.out.size)).mono ?_
  rintro e w1 ⟨rfl, hb, hd⟩
  replace HX := Lib.hid (HX.out.below hb HX.out.lt)
  replace HB : Hid (Below w.heap.size w w1) := Lib.hid (HB.out.trans (hb.mono HB.out.size))
  have HD := Lib.hid hd
  clear hb hd HC
  go_wp2_with fail
  refine (drates_any _ _ HD.out).mono ?_
  rintro e w2 ⟨g3, c3, l, cu, fr, rfl, hl3, hl3', hg3, hg3', hp3, hgood, hk2, hd2⟩
  replace HX := Lib.hid (HX.out.keeps hk2 (by omega))
  replace HB : Hid (Below w.heap.size w w2) := Lib.hid (HB.out.trans (hk2.below (by omega) HB.out.size))
  have HP3 := Lib.hid hp3
  obtain ⟨m3, hm3⟩ : ∃ m, l.length = m := ⟨_, rfl⟩
  have HM := Lib.hid hm3
  have HLc : Hid ((t3L l).length = m3 * 3) := Lib.hid (by rw [t3L_length, HM.out])
  have HGD : Hid (∀ j, j < m3 → 0 ≤ (t3At l j).b ∧ (t3At l j).b ≤ 876599) := Lib.hid fun j hj => (hgood.el _ (Xc.t3At_mem l j (by omega))).2.1.1
  rw [hm3] at hl3 hl3' HP3 ⊢
  clear hk2 hd2 hp3 hgood hm3 HD
  obtain ⟨H, hH⟩ : ∃ H, w2.heap.size = H := ⟨_, rfl⟩
  have hH2 : H ≤ w2.heap.size := by omega
  have hxH : w.heap.size < H := by have := HX.out.lt; omega
  rw [hH] at HP3
  clear hH
  obtain ⟨k, hk⟩ : ∃ k : Nat, Am.within at' m3 = k := ⟨(Am.within at' m3).toNat, by have := Am.within_bound at' m3 (by omega); omega⟩
  have hkm : k < m3 := by have := Am.within_bound at' m3 (by omega); omega
  have HW := Lib.hid hk
  clear hk
  have hk0 : (0 : Int) ≤ k := by omega
  have hk1 : (k : Int) < m3 := by omega
  go_wp2_with fail
  refine (within_any _ _ _ (by omega) (by omega)).mono ?_
  rintro e w' ⟨rfl, rfl⟩
  rw [HW.out]
  have HN1 : Hid (∀ j u, (t3L l)[j]? = some u → w2.cell? ((⟨g3, 0, none⟩ : Addr).add j) = some u) := Lib.hid (Trips.news (B := H) (by rw [HM.out]; exact HP3.out))
  have hz1 := HB.out.size
  have hg71 : g3 < w2.heap.size := by
    obtain ⟨b, o, e, hb, _⟩ := HP3.out.get (j := 0) (by omega)
    injection e with e
    injection e with e
    omega
  go_upto_region 4 with ((at_builtin; refine wpList_append_lies _ rfl _ _ 25 rfl w2.heap.size 24 i0 _ 3 24 Try.underlying25 HI.out HZ0.out HZ1.out HZ2.out rfl (by omega) (.slice (some ⟨w2.heap.size, 0, none⟩) 0 0) 0 [] rfl (own_empty w2 _ _) ⟨g3, 0, none⟩ m3 c3 (t3L l) rfl HLc.out (fun j u hu => (World.cell?_alloc_lt w2 _ _ (by rw [add_block]; exact hg71)).trans (HN1.out j u hu)) (fun u hu => by obtain ⟨z, rfl⟩ := t3L_int l u hu; rfl) (by omega) (by unfold maxLen; omega) (by omega) (by simp) (w2.heap.size + 1) (by simp) ?_; intro g1 cap1 v1 hown1 hgrow1 hat1 hlt1))
  simp only [Nat.zero_add, List.nil_append] at hown1
  have hb1 : Below w2.heap.size w2 v1 := ((Below.refl _ _).alloc (Nat.le_refl _) _).grown hgrow1 (by simp) (fun k hk => by simp [Value.ownBlock] at hk; omega)
  have HO1 : Hid (OC v1 w2.heap.size g1 cap1 m3) := Lib.hid ⟨_, hown1, t3L_int l⟩
  have hg1 := HO1.out.ge
  have hgl1 := HO1.out.lt
  replace HX := Lib.hid (HX.out.below (hb1.mono (by omega)) hxH)
  replace HB : Hid (Below w.heap.size w v1) := Lib.hid (HB.out.trans (hb1.mono (by omega)))
  replace HP3 := Lib.hid (HP3.out.below (hb1.mono (by omega)))
  clear hown1 hgrow1 hat1 HN1
  have hs1 := hb1.size
  clear hb1
  obtain ⟨y0, hc0⟩ := HO1.out.cell (k * 3) (by omega)
  obtain ⟨y1, hc1⟩ := HO1.out.cell (k * 3 + 1) (by omega)
  obtain ⟨y2, hc2⟩ := HO1.out.cell (k * 3 + 1 + 1) (by omega)
  have hf0 := HO1.out.free (k * 3)
  have hf1 := HO1.out.free (k * 3 + 1)
  have hf2 := HO1.out.free (k * 3 + 1 + 1)
  obtain ⟨a0, a1, a2⟩ := HX.out.rules
  go_upto_region 5 with (fail)
  obtain ⟨V1, hV1⟩ : ∃ V, ((v1.setCell ⟨g1, k * 3, none⟩ (.int .i64 x0)).setCell ⟨g1, k * 3 + 1, none⟩ (.int .i64 x1)).setCell ⟨g1, k * 3 + 1 + 1, none⟩ (.int .i64 x2) = V := ⟨_, rfl⟩
  have hbv : Below w2.heap.size v1 V1 := by rw [← hV1]; exact (((Below.refl _ _).setCell hg1 _).setCell hg1 _).setCell hg1 _
  replace HO1 : Hid (OC V1 w2.heap.size g1 cap1 m3) := Lib.hid (by rw [← hV1]; exact ((HO1.out.put _ _).put _ _).put _ _)
  replace HX := Lib.hid (HX.out.below (hbv.mono (by omega)) hxH)
  replace HB : Hid (Below w.heap.size w V1) := Lib.hid (HB.out.trans (hbv.mono (by omega)))
  replace HP3 := Lib.hid (HP3.out.below (hbv.mono (by omega)))
  have hsv1 := hbv.size
  rw [hV1]
  clear hV1 hc0 hc1 hc2 hf0 hf1 hf2 a0 a1 a2 hbv
  have hg1V := HO1.out.lt
  have HN2 : Hid (∀ j u, (t3L l)[j]? = some u → V1.cell? ((⟨g3, 0, none⟩ : Addr).add j) = some u) := Lib.hid (Trips.news (B := H) (by rw [HM.out]; exact HP3.out))
  have hz2 := HB.out.size
  have hg72 : g3 < V1.heap.size := by
    obtain ⟨b, o, e, hb, _⟩ := HP3.out.get (j := 0) (by omega)
    injection e with e
    injection e with e
    omega
  go_upto_region 6 with ((at_builtin; refine wpList_append_lies _ rfl _ _ 25 rfl V1.heap.size 24 i0 _ 3 24 Try.underlying25 HI.out HZ0.out HZ1.out HZ2.out rfl (by omega) (.slice (some ⟨V1.heap.size, 0, none⟩) 0 0) 0 [] rfl (own_empty V1 _ _) ⟨g3, 0, none⟩ m3 c3 (t3L l) rfl HLc.out (fun j u hu => (World.cell?_alloc_lt V1 _ _ (by rw [add_block]; exact hg72)).trans (HN2.out j u hu)) (fun u hu => by obtain ⟨z, rfl⟩ := t3L_int l u hu; rfl) (by omega) (by unfold maxLen; omega) (by omega) (by simp) (V1.heap.size + 1) (by simp) ?_; intro g2 cap2 v2 hown2 hgrow2 hat2 hlt2))
  simp only [Nat.zero_add, List.nil_append] at hown2
  have hb2 : Below V1.heap.size V1 v2 := ((Below.refl _ _).alloc (Nat.le_refl _) _).grown hgrow2 (by simp) (fun k hk => by simp [Value.ownBlock] at hk; omega)
  have HO2 : Hid (OC v2 V1.heap.size g2 cap2 m3) := Lib.hid ⟨_, hown2, t3L_int l⟩
  have hg2 := HO2.out.ge
  have hgl2 := HO2.out.lt
  replace HO1 := Lib.hid (HO1.out.below hb2)
  replace HX := Lib.hid (HX.out.below (hb2.mono (by omega)) hxH)
  replace HB : Hid (Below w.heap.size w v2) := Lib.hid (HB.out.trans (hb2.mono (by omega)))
  replace HP3 := Lib.hid (HP3.out.below (hb2.mono (by omega)))
  clear hown2 hgrow2 hat2 HN2
  have hs2 := hb2.size
  clear hb2
  obtain ⟨y1, hc1⟩ := HO2.out.cell (k * 3 + 1) (by omega)
  have hf1 := HO2.out.free (k * 3 + 1)
  obtain ⟨a0, a1, a2⟩ := HX.out.rules
  have a11 := a0 1
  simp only [List.getElem?_toArray, List.getElem?_cons_zero, List.getElem?_cons_succ] at a11
  clear a0 a1
  go_cut [] (fun wx => Hid (OC wx V1.heap.size g2 cap2 m3) ∧ Hid (OC wx w2.heap.size g1 cap1 m3) ∧ Hid (Has wx w.heap.size #[.int .i64 x0, .int .i64 x1, .int .i64 x2] 24) ∧ Hid (Below w.heap.size w wx) ∧ Hid (Trips wx H (some ⟨g3, 0, none⟩) m3 (t3At l)) ∧ v2.heap.size ≤ wx.heap.size)
  case first =>
    go_region_law (first | (go_simp; go_at_call 11; refine (within_any _ _ _ (by omega) (by omega)).mono ?_; rintro e w' ⟨rfl, rfl⟩))
    all_goals
      go_wp2_with fail
      go_meet
      case rel => exact ⟨Lib.hid (HO2.out.put _ _).drew, Lib.hid (HO1.out.far (by simp only; omega) _).drew, Lib.hid (HX.out.far (by simp only; omega) _).drew, Lib.hid (HB.out.setCell (by simp only; omega) _).drew, Lib.hid (HP3.out.below (((Below.refl _ _).setCell (by simp only; omega) _).drew)), by simp⟩
  case rest =>
    clear HO2 HO1 HX HB HP3 hc1 hf1 a11
    obtain ⟨HO2, HO1, HX, HB, HP3, hsc⟩ := hcut
    have hwcH : H ≤ wc.heap.size := by omega
    have HN3 : Hid (∀ j u, (t3L l)[j]? = some u → wc.cell? ((⟨g3, 0, none⟩ : Addr).add j) = some u) := Lib.hid (Trips.news (B := H) (by rw [HM.out]; exact HP3.out))
    have hz3 := HB.out.size
    have hg73 : g3 < wc.heap.size := by
      obtain ⟨b, o, e, hb, _⟩ := HP3.out.get (j := 0) (by omega)
      injection e with e
      injection e with e
      omega
    go_upto_region 8 with ((at_builtin; refine wpList_append_lies _ rfl _ _ 25 rfl wc.heap.size 24 i0 _ 3 24 Try.underlying25 HI.out HZ0.out HZ1.out HZ2.out rfl (by omega) (.slice (some ⟨wc.heap.size, 0, none⟩) 0 0) 0 [] rfl (own_empty wc _ _) ⟨g3, 0, none⟩ m3 c3 (t3L l) rfl HLc.out (fun j u hu => (World.cell?_alloc_lt wc _ _ (by rw [add_block]; exact hg73)).trans (HN3.out j u hu)) (fun u hu => by obtain ⟨z, rfl⟩ := t3L_int l u hu; rfl) (by omega) (by unfold maxLen; omega) (by omega) (by simp) (wc.heap.size + 1) (by simp) ?_; intro g3_ cap3 v3 hown3 hgrow3 hat3 hlt3))
    simp only [Nat.zero_add, List.nil_append] at hown3
    have hb3 : Below wc.heap.size wc v3 := ((Below.refl _ _).alloc (Nat.le_refl _) _).grown hgrow3 (by simp) (fun k hk => by simp [Value.ownBlock] at hk; omega)
    have HO3 : Hid (OC v3 wc.heap.size g3_ cap3 m3) := Lib.hid ⟨_, hown3, t3L_int l⟩
    have hg3_ := HO3.out.ge
    have hgl3 := HO3.out.lt
    replace HO1 := Lib.hid (HO1.out.below hb3)
    replace HO2 := Lib.hid (HO2.out.below hb3)
    replace HX := Lib.hid (HX.out.below (hb3.mono hwcH) hxH)
    replace HB : Hid (Below w.heap.size w v3) := Lib.hid (HB.out.trans (hb3.mono (by omega)))
    clear hown3 hgrow3 hat3 HN3 HP3
    have hs3 := hb3.size
    clear hb3
    obtain ⟨y0, hc0⟩ := HO3.out.cell (k * 3) (by omega)
    have hf0 := HO3.out.free (k * 3)
    obtain ⟨a0, a1, a2⟩ := HX.out.rules
    go_wp2_with fail
    refine (within_any _ _ _ (by omega) (by omega)).mono ?_
    rintro e w' ⟨rfl, rfl⟩
    obtain ⟨d, hd⟩ : ∃ d, Am.within x0 5 = d := ⟨_, rfl⟩
    rw [hd]
    clear hd
    go_upto_region 9 with (fail)
    obtain ⟨V3, hV3⟩ : ∃ V, v3.setCell ⟨g3_, k * 3, none⟩ (.int .i64 d) = V := ⟨_, rfl⟩
    replace HO3 : Hid (OC V3 wc.heap.size g3_ cap3 m3) := Lib.hid (by rw [← hV3]; exact HO3.out.put _ _)
    replace HO1 : Hid (OC V3 w2.heap.size g1 cap1 m3) := Lib.hid (by rw [← hV3]; exact HO1.out.far (by simp only; omega) _)
    replace HO2 : Hid (OC V3 V1.heap.size g2 cap2 m3) := Lib.hid (by rw [← hV3]; exact HO2.out.far (by simp only; omega) _)
    replace HB : Hid (Below w.heap.size w V3) := Lib.hid (by rw [← hV3]; exact HB.out.setCell (by simp only; omega) _)
    rw [hV3]
    clear hV3 hc0 hf0 a0 a1 a2 HX
    obtain ⟨f1, hp1⟩ := HO1.out.trips
    obtain ⟨f2, hp2⟩ := HO2.out.trips
    obtain ⟨f3, hp3⟩ := HO3.out.trips
    have hm : m3 ≤ 9223372036854775807 := by omega
    have CC : ∀ (g cap : Nat) (f : Nat → T3), Trips V3 V3.heap.size (some ⟨g, 0, none⟩) m3 f → Hid (∃ er, ∀ W : World, Below V3.heap.size V3 W → Calls Try.prog 12 #[.slice (some ⟨g, 0, none⟩) m3 cap] W (IntPost er W) ∧ Calls Try.prog 13 #[.slice (some ⟨g, 0, none⟩) m3 cap] W (IntPost er W)) := fun g cap f h => Lib.hid ⟨_, fun W hb => ⟨xvalidate_any _ _ _ f W hm ((h.below hb).mono hb.size), rrates_any _ _ _ f W hm ((h.below hb).mono hb.size)⟩⟩
    obtain ⟨er1, CE1⟩ := (CC g1 cap1 f1 hp1).out
    obtain ⟨er2, CE2⟩ := (CC g2 cap2 f2 hp2).out
    obtain ⟨er3, CE3⟩ := (CC g3_ cap3 f3 hp3).out
    have C1 := Lib.hid CE1
    have C2 := Lib.hid CE2
    have C3 := Lib.hid CE3
    have HE := Lib.hid (Below.refl V3.heap.size V3)
    clear CE1 CE2 CE3 CC hp1 hp2 hp3 HO1 HO2 HO3
    go_wp2_with fail
    refine (C1.out _ HE.out).1.mono ?_
    rintro e u11 ⟨rfl, hb⟩
    replace HE : Hid (Below V3.heap.size V3 u11) := Lib.hid (HE.out.trans (hb.mono HE.out.size))
    clear hb
    go_wp2_with fail
    refine (C1.out _ HE.out).2.mono ?_
    rintro e u12 ⟨rfl, hb⟩
    replace HE : Hid (Below V3.heap.size V3 u12) := Lib.hid (HE.out.trans (hb.mono HE.out.size))
    clear hb
    go_wp2_with fail
    refine (C2.out _ HE.out).1.mono ?_
    rintro e u21 ⟨rfl, hb⟩
    replace HE : Hid (Below V3.heap.size V3 u21) := Lib.hid (HE.out.trans (hb.mono HE.out.size))
    clear hb
    go_wp2_with fail
    refine (C2.out _ HE.out).2.mono ?_
    rintro e u22 ⟨rfl, hb⟩
    replace HE : Hid (Below V3.heap.size V3 u22) := Lib.hid (HE.out.trans (hb.mono HE.out.size))
    clear hb
    go_wp2_with fail
    refine (C3.out _ HE.out).1.mono ?_
    rintro e u31 ⟨rfl, hb⟩
    replace HE : Hid (Below V3.heap.size V3 u31) := Lib.hid (HE.out.trans (hb.mono HE.out.size))
    clear hb
    go_wp2_with fail
    refine (C3.out _ HE.out).2.mono ?_
    rintro e u32 ⟨rfl, hb⟩
    replace HE : Hid (Below V3.heap.size V3 u32) := Lib.hid (HE.out.trans (hb.mono HE.out.size))
    clear hb
    go_wp2_with (first | (go_at_call 14; refine (awake4_any _).mono ?_; rintro e w99 ⟨rfl, hb99⟩))
    go_ret
    exact ⟨rfl, HB.out.trans ((HE.out.trans (hb99.mono HE.out.size)).mono HB.out.size)⟩

set_option maxRecDepth 100000 in
theorem lifted (os : Os) (started : os.Started) (H : Type) (enc : TypeId × Value → H) :
    ReturnsInHanded {} Try.checked os 3 .any (Rows.exchangeOrderSpec.pre6 enc Try.prog Try.f3 Rows.exchangeOrderRow.domain false) (Rows.exchangeOrderSpec.post enc Try.prog Try.f3 false true false false) := by
  refine returnsInHanded_of_change (C := Try.checked) own started (by kernel_rfl) Try.func3
    (ChangeSpec.witness6 (enc := enc) (C := Try.checked) false ⟨#[], #[.slice none 0 0, .int .i64 0, .agg #[.int .i64 0, .int .i64 0, .int .i64 0]], []⟩ 8 (by kernel_rfl) (by kernel_rfl) (by kernel_rfl) (by kernel_rfl)) ?_
  intro W base args ds gs before hval0 hW hcnd _
  have hval : ∀ (j : Nat) t v, Try.f3.params[j]? = some t → args[j]? = some v → Value.okWide Try.prog W .any base t v := hval0
  have hW' := hW
  obtain ⟨p, q, hA0, hV, rfl, hfz, hnd⟩ := hW
  have hA : DataW.TrodAll enc Try.prog W 0 (fun _ => true) true Try.f3.params.toList args.toList ds p := hA0
  rw [Try.params3] at hA hval
  obtain ⟨v0, vs0, d0, ds0, p0, q0, hargs, rfl, rfl, h0, r0⟩ := trodAll_cons hA
  obtain ⟨v1, vs1, d1, ds1, p1, q1, rfl, rfl, rfl, h1, r1⟩ := trodAll_cons r0
  obtain ⟨v2, vs2, d2, ds2, p2, q2, rfl, rfl, rfl, h2, r2⟩ := trodAll_cons r1
  obtain ⟨rfl, rfl, rfl⟩ := trodAll_nil r2
  obtain rfl : args = #[v0, v1, v2] := by cases args; simp_all
  obtain ⟨rfl, rfl⟩ := trodVars_none hV
  have k0 := h0
  have lt0 : ∀ x ∈ p0, x.block < W.heap.size := by obtain ⟨m, hm⟩ := k0; exact DataW.trod_lt m _ _ _ hm
  obtain ⟨a0, len0, cap0, rfl⟩ := okWide_slice Try.underlying22 (hval 0 22 v0 rfl rfl)
  have r100 : Rd22 W [.slice a0 len0 cap0] := by obtain ⟨fuel, hf⟩ := h0; exact rd22 hf
  have k1 := h1
  have lt1 : ∀ x ∈ p1, x.block < W.heap.size := by obtain ⟨m, hm⟩ := k1; exact DataW.trod_lt m _ _ _ hm
  obtain ⟨a1, rfl⟩ := okWide_int Try.underlying3 (hval 1 3 v1 rfl rfl)
  have r101 : Rd3 W [.int .i64 a1] := by obtain ⟨fuel, hf⟩ := h1; exact rd3 hf
  have k2 := h2
  have lt2 : ∀ x ∈ p2, x.block < W.heap.size := by obtain ⟨m, hm⟩ := k2; exact DataW.trod_lt m _ _ _ hm
  obtain ⟨⟨c2⟩, rfl, _⟩ := okWide_struct Try.underlying24 (hval 2 24 v2 rfl rfl)
  have r102 : Rd24 W c2 := by obtain ⟨fuel, hf⟩ := h2; exact rd24 hf
  clear hA0 hval0
  refine (walk _ _ c2 W r100 r101 r102).mono fun e W' ⟨he, bel⟩ => ?_
  subst he
  exact ⟨_, rfl, _, _, _, [], _, [], hW', trodAll_mk1 (shut_bool Try.underlying4 _), (trodAll_cons_mk (Below.trod laidOut (by kernel_rfl) (of_decide_eq_true (by kernel_rfl)) k0 bel lt0) (trodAll_cons_mk (Below.trod laidOut (by kernel_rfl) (of_decide_eq_true (by kernel_rfl)) k1 bel lt1) (trodAll_cons_mk (Below.trod laidOut (by kernel_rfl) (of_decide_eq_true (by kernel_rfl)) k2 bel lt2) trodAll_mk0))), rfl, bel.frame _, fun h => by cases h⟩

theorem over : Rows.exchangeOrderRow.holds Try.pinned (OpenSpec.ofChange Rows.exchangeOrderSpec) :=
  OpenClaim.holds_of_wide 3 Try.f3 rfl rfl rfl rfl rfl rfl rfl ⟨rfl, rfl, rfl, rfl, rfl⟩ rfl rfl rfl rfl rfl (by kernel_rfl) Try.func3 (by kernel_rfl)
    (of_decide_eq_true (by kernel_rfl)) (by unfold Func.isWrapper; first | (rw [if_pos (by decide +kernel)]; kernel_rfl) | (rw [if_neg (by decide +kernel)]; exact ⟨rfl, rfl⟩))
    (fun os started H enc _ => lifted os started H enc)

/-- the statement -/
theorem proved : Rows.ExchangeOrderSaid := over
#print axioms proved
end Go.Proofs.Ytojpjglkdmmfjaa.exchangeOrder
