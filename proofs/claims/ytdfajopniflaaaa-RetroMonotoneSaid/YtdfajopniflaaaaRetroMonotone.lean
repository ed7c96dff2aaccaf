/- The law RetroMonotone: greater losses lead to results that are not less. No condition. -/
import Derived.Test.YtdfajopniflaaaaRows
import Derived.Test.YtdfajopniflaaaaRead
import Derived.Test.YtdfajopniflaaaaReAw
import Derived.Test.YtdfajopniflaaaaReArgs
import Derived.Test.YtdfajopniflaaaaDeckA
import Derived.WalkKit
import Derived.ProofKit
import Derived.OpenShut
import Derived.ShutString
import Derived.ChangeOld
import Derived.Below
namespace Go.Proofs.Ytdfajopniflaaaa.retroMonotone
open Go.ChangeShapes Go.WideShapes Go.ChangeAt Go.RowKit
set_option linter.unusedVariables false

theorem own : ownKnob Try.prog.godebug = none := by kernel_rfl
theorem laidOut : laidOutB Try.prog = true := by kernel_rfl



set_option maxHeartbeats 4000000 in
set_option maxRecDepth 100000 in
theorem walk (v0 : Value) (v1 : Value) (w : World) (h0 : Rd22 w [v0]) (h1 : Rd22 w [v1]) :
    Calls Try.prog 4 #[v0, v1] w fun e w' => e = .returned (.bool true) ∧ Below w.heap.size w w' := by
  obtain ⟨AD, nd, cd, zd, rfl, hnd, _, _, hdc, _⟩ := rd_ints h0
  obtain ⟨AE, ne, ce, ze, rfl, hne, _, _, hec, _⟩ := rd_ints h1
  have HDC := Lib.hid hdc
  have HEC := Lib.hid hec
  clear h0 h1 hdc hec
  obtain ⟨i0, hi0, hz0, hz1, hz2⟩ := info_parts int_info
  have HI := Lib.hid hi0
  have HZ0 := Lib.hid hz0
  have HZI := Lib.hid hz1
  have HZ2 := Lib.hid hz2
  clear hi0 hz0 hz1 hz2
  obtain ⟨bd, hbd⟩ : ∃ b, w.heap.size = b := ⟨_, rfl⟩
  have CN := Lib.hid (new2_any AD nd cd zd w hnd HDC.out)
  rw [hbd] at CN
  go_enter Try.func4, Try.ntmps4
  go_wp2_with fail
  refine CN.out.mono ?_
  rintro e w1 ⟨rfl, hb, hd⟩
  have HB : Hid (Below w.heap.size w w1) := Lib.hid (by rw [hbd]; exact hb)
  have HD := Lib.hid hd
  clear hb hd HDC CN
  go_wp2_with fail
  refine (retros_any _ _ HD.out).mono ?_
  intro e w2 hpost
  obtain ⟨g, n, m, B2, k2, o, R, rfl, hn1, hn5, hm6, hg, _, _, ho1, hr1, hB2, _, _, hV1, hk, hd⟩ := retros_use hpost HD.out.lt
  have hbl := HD.out.lt
  replace HB : Hid (Below w.heap.size w w2) := Lib.hid (HB.out.trans (hk.below (by omega) HB.out.size))
  replace HD := Lib.hid hd
  have HO := Lib.hid ho1
  have HR := Lib.hid hr1
  have HV := Lib.hid hV1
  have HB2 : Hid (∀ ad, B2 = some ad → ad.block ≠ bd) := Lib.hid fun ad e => by have := (hB2 ad e).1; omega
  have hgb : g ≠ bd := by omega
  clear hpost hk hd ho1 hr1 hV1 hB2
  go_wp2_with fail
  refine (list39_any _ (some ⟨g, 0, none⟩) n n o B2 m k2 R w2 HD.out HV.out HO.out HR.out (fun ad e => by injection e with e; subst e; exact hgb) HB2.out).mono ?_
  rintro e w3 ⟨gz, x, rfl, hgz, hz, hzb, hk, hd⟩
  replace HB : Hid (Below w.heap.size w w3) := Lib.hid (HB.out.trans (hk.below (by omega) HB.out.size))
  replace HO := Lib.hid (HO.out.keeps_ne hk (fun ad e => by injection e with e; subst e; exact hgb))
  replace HR := Lib.hid (HR.out.keeps_ne hk HB2.out)
  have HX := Lib.hid hz.nums
  have HXB : Hid (∀ i, i < n → 0 ≤ x i ∧ x i ≤ 26843545600) := Lib.hid fun i hi => by
    have h1 := hzb i hi
    have h2 := Re.top_bound HV.out i hi
    have h3 := (Re.verr_fine HV.out).2.2.2.1 i hi
    omega
  have hgzl := hz.lt
  have hz3 := HB.out.size
  clear hk hd hz hzb HD HB2
  have HN : Hid (∀ j u, (numsL n x)[j]? = some u → w3.cell? ((⟨gz, 0, none⟩ : Addr).add j) = some u) := Lib.hid (Nums.news HX.out)
  go_wp2_with ((at_builtin; refine wpList_append_lies _ rfl _ _ 22 rfl w3.heap.size 3 i0 _ 1 8 Try.underlying22 HI.out HZ0.out HZI.out HZ2.out rfl (by omega) (.slice (some ⟨w3.heap.size, 0, none⟩) 0 0) 0 [] rfl (own_empty w3 _ _) ⟨gz, 0, none⟩ n n (numsL n x) rfl (by rw [numsL_length, Nat.mul_one]) (fun j u hu => (World.cell?_alloc_lt w3 _ _ (by rw [add_block]; exact hgzl)).trans (HN.out j u hu)) (numsL_one n x) (by omega) (by unfold maxLen; omega) (by omega) (by simp) (w3.heap.size + 1) (by simp) ?_; intro gy cap w4 hown hgrow hat hlt2))
  simp only [Nat.zero_add, List.nil_append] at hown
  have hb4 : Below w3.heap.size w3 w4 := ((Below.refl _ _).alloc (Nat.le_refl _) _).grown hgrow (by simp) (fun k hk => by simp [Value.ownBlock] at hk; omega)
  have HY : Hid (OwnN w4 w3.heap.size gy n cap x) := Lib.hid hown
  replace HB : Hid (Below w.heap.size w w4) := Lib.hid (HB.out.trans (hb4.mono hz3))
  replace HO := Lib.hid (HO.out.below hb4)
  replace HR := Lib.hid (HR.out.below hb4)
  replace HX := Lib.hid (HX.out.below hb4)
  have hz4 := hb4.size
  clear hown hgrow hat hlt2 hb4 HN
  have HAE : Hid (∀ ad, AE = some ad → 0 < ne → ad.block < w.heap.size) := Lib.hid fun ad e h0 => by obtain ⟨ad', e', hl, _⟩ := HEC.out h0; rw [e] at e'; injection e' with e'; subst e'; exact hl
  have CN2 := Lib.hid (new2_anyA AE ne ce ze w4 hne ((HEC.out.below HB.out).mono HB.out.size))
  obtain ⟨bu, hbu⟩ : ∃ b, w4.heap.size = b := ⟨_, rfl⟩
  have hyl := HY.out.lt
  have hyb := HY.out.base_le
  rw [hbu] at CN2 hyl hz4
  go_wp2_with fail
  refine CN2.out.mono ?_
  rintro e w5 ⟨rfl, hb, hd⟩
  rw [← hbu] at hb
  replace HB : Hid (Below w.heap.size w w5) := Lib.hid (HB.out.trans (hb.mono HB.out.size))
  replace HO := Lib.hid (HO.out.below (hb.mono (B := w4.heap.size) (by omega)))
  replace HR := Lib.hid (HR.out.below (hb.mono (B := w4.heap.size) (by omega)))
  replace HX := Lib.hid (HX.out.below (hb.mono (B := w4.heap.size) (by omega)))
  replace HY := Lib.hid (HY.out.below hb HY.out.lt)
  have HD := Lib.hid hd
  have hz5 := HB.out.size
  clear hb hd HEC CN2 hbu
  have HK0 := Lib.hid (Keeps.refl bu w5)
  have hbu5 := HD.out.lt
  go_wp2_with fail
  go_loopw [11, 35] (fun _ i wr => ∃ (k : Nat) (y : Nat → Int), k ≤ n ∧ i = .int .i64 k ∧ Hid (OwnN wr w3.heap.size gy n cap y) ∧ Hid (∀ i, i < n → x i ≤ y i ∧ y i ≤ 27111981055) ∧ Hid (∀ i, k ≤ i → i < n → y i = x i) ∧ Hid (DeckA AE ne ce ze wr bu) ∧ Hid (Below w.heap.size w wr) ∧ Hid (Below w3.heap.size w5 wr)) (fun _ i _ => n - (intOf i).toNat)
  case atStart => exact ⟨0, x, Nat.zero_le _, rfl, HY, Lib.hid fun i hi => by have := HXB.out i hi; omega, Lib.hid fun _ _ _ => rfl, HD, HB, Lib.hid (Below.refl _ _)⟩
  case round =>
    clear HY HD HB HK0
    obtain ⟨k, y, hk, rfl, HY, HYB, HYE, HD, HB, HW⟩ := hrel
    by_cases hlt : k < n
    · obtain ⟨yk, hyk⟩ : ∃ yk, y k = yk := ⟨_, rfl⟩
      have hyb1 := HYB.out k hlt
      have hye := HYE.out k (Nat.le_refl _) hlt
      have hxb := HXB.out k hlt
      rw [hyk] at hyb1 hye
      have hyx : 0 ≤ yk ∧ yk ≤ 26843545600 := by omega
      obtain ⟨hy0, hy1⟩ := hyx
      have hq0 := HY.out.cell k hlt
      have hq1 := HY.out.free k
      rw [hyk] at hq0
      have HYK := Lib.hid hyk
      have hk0 : (0 : Int) ≤ k := by omega
      have hk1 : (k : Int) < n := by omega
      clear hyk hyb1 hye hxb
      go_wp2_with fail
      go_region_law (first
        | (go_simp; go_at_call 21; refine (small_anyA AE ne ce ze bu _ (HD.out.drewN 1)).mono ?_; rintro e w6 ⟨s, rfl, s0, s1, hk2, hd2⟩; have hk3 := (Keeps.drewN (Keeps.refl bu wr) 1).trans hk2; replace HY := Lib.hid (HY.out.keeps hk3 (by omega)); replace HD := Lib.hid hd2; replace HB : Hid (Below w.heap.size w w6) := Lib.hid (HB.out.trans (hk3.below (by omega) HB.out.size)); replace HW : Hid (Below w3.heap.size w5 w6) := Lib.hid (HW.out.trans (hk3.below (by omega) (by have := HW.out.size; omega))); clear hk2 hd2 hk3 hq0 hq1; have hq0 := HY.out.cell k hlt; have hq1 := HY.out.free k; rw [HYK.out] at hq0; have hw3 : IntKind.i64.wrap (yk + s) = yk + s := (by rw [IntKind.wrap_i64]; omega)))
      all_goals
        have HY2 := Lib.hid (HY.out.put k (yk + s))
        have HYB2 : Hid (∀ i, i < n → x i ≤ (if i = k then yk + s else y i) ∧ (if i = k then yk + s else y i) ≤ 27111981055) := Lib.hid fun i hi => by
          have h1 := HYB.out i hi
          by_cases e : i = k
          · rw [if_pos e]
            rw [e, HYK.out] at h1
            rw [e]
            omega
          · rw [if_neg e]; exact h1
        have HYE2 : Hid (∀ i, k + 1 ≤ i → i < n → (if i = k then yk + s else y i) = x i) := Lib.hid fun i h1 h2 => by
          rw [if_neg (by omega)]
          exact HYE.out i (by omega) h2
        have HD2 : Hid (DeckA AE ne ce ze (w6.setCell ⟨gy, k, none⟩ (.int .i64 (yk + s))) bu) := Lib.hid (by
          rcases Nat.eq_zero_or_pos ne with h0 | h0
          · obtain ⟨q, hh, a1, a2, hcc⟩ := HD.out
            exact ⟨q, hh.far (by simp only; omega) _, a1, a2, by rw [h0]; exact Cells.zero⟩
          · exact HD.out.far (by simp only; omega) (fun ad e => by have := HAE.out ad e h0; simp only; omega) _)
        go_wp2_with fail
        go_roundw
        case rel => exact ⟨k + 1, _, by omega, by go_num, HY2, HYB2, HYE2, HD2, Lib.hid (HB.out.setCell (by simp only; omega) _), Lib.hid (HW.out.setCell (by simp only; omega) _)⟩
        case measure => simp [intOf]; omega
    · have hs := HB.out.size
      have hs3 : w3.heap.size ≤ wr.heap.size := by have := HW.out.size; omega
      replace HO := Lib.hid ((HO.out.below HW.out).mono hs3)
      replace HR := Lib.hid ((HR.out.below HW.out).mono hs3)
      replace HX := Lib.hid ((HX.out.below HW.out).mono hs3)
      have HYN := Lib.hid HY.out.nums
      have HE1 : Hid (Re.lerr n o m R n x = 0) := Lib.hid (Re.lerr_ok HV.out fun i hi => by have := HXB.out i hi; omega)
      have HE2 : Hid (Re.lerr n o m R n y = 0) := Lib.hid (Re.lerr_ok HV.out fun i hi => by have h1 := HXB.out i hi; have h2 := HYB.out i hi; omega)
      have C1 := Lib.hid (iterate_any (some ⟨g, 0, none⟩) n n o B2 m k2 R (some ⟨gz, 0, none⟩) n n x wr (by omega) (by omega) (by omega) HO.out HR.out HX.out)
      have C2 : Hid (∀ W : World, Below wr.heap.size wr W → Calls Try.prog 22 #[.slice (some ⟨g, 0, none⟩) n n, .slice B2 m k2, .slice (some ⟨gy, 0, none⟩) n cap] W (RowPost 0 n (Re.step o m R y) W)) := Lib.hid fun W hb => by
        have := iterate_any (some ⟨g, 0, none⟩) n n o B2 m k2 R (some ⟨gy, 0, none⟩) n cap y W (by omega) (by omega) (by omega) ((HO.out.below hb).mono hb.size) ((HR.out.below hb).mono hb.size) ((HYN.out.below hb).mono hb.size)
        rw [HE2.out] at this
        exact this
      rw [HE1.out] at C1
      have HLE : Hid (∀ i, Re.step o m R x i ≤ Re.step o m R y i) := Lib.hid (Re.step_mono (Re.frN_lt HV.out) fun i hi => by have h1 := HXB.out i hi; have h2 := HYB.out i hi; omega)
      clear HE1 HE2 HYN HY HD HYE
      go_wp2_with fail
      refine C1.out.mono ?_
      rintro e w7 ⟨P, mp, cp, rfl, hb, hmp, hp, _⟩
      rw [if_pos rfl] at hmp
      subst hmp
      have HP := Lib.hid hp
      have HB7 : Hid (Below w.heap.size w w7) := Lib.hid (HB.out.trans (hb.mono hs))
      have HE := Lib.hid hb
      clear hb hp C1
      go_wp2_with fail
      refine (C2.out _ HE.out).mono ?_
      rintro e w8 ⟨Q, mq, cq, rfl, hb, hmq, hq, _⟩
      rw [if_pos rfl] at hmq
      subst hmq
      have HQ := Lib.hid hq
      replace HP := Lib.hid ((HP.out.below hb).mono hb.size)
      have HB8 : Hid (Below w.heap.size w w8) := Lib.hid (HB7.out.trans (hb.mono HB7.out.size))
      clear hb hq C2 HE HB7
      go_wp2_with fail
      go_loopw [16, 76] (fun _ i wr => ∃ q : Nat, q ≤ mq ∧ i = .int .i64 q ∧ ∃ nn, wr = w8.drewN nn) (fun _ i _ => mq - (intOf i).toNat)
      case atStart => exact ⟨0, Nat.zero_le _, rfl, 0, rfl⟩
      case round =>
        obtain ⟨q, hq, rfl, nn, rfl⟩ := hrel
        by_cases hlt2 : q < mq
        · obtain ⟨b1, f1, rfl, _, hc1⟩ := HP.out.get hlt2
          obtain ⟨b2, f2, rfl, _, hc2⟩ := HQ.out.get hlt2
          have hle := HLE.out q
          obtain ⟨u, hu⟩ : ∃ u, Re.step o m R x q = u := ⟨_, rfl⟩
          obtain ⟨v, hv⟩ : ∃ v, Re.step o m R y q = v := ⟨_, rfl⟩
          rw [hu] at hc1 hle
          rw [hv] at hc2 hle
          have hq0 : (0 : Int) ≤ q := by omega
          have hq1 : (q : Int) < mq := by omega
          clear hu hv
          go_wp2_with fail
          go_quiet (fail)
          go_wp2_with fail
          go_roundw
          case rel => exact ⟨q + 1, by omega, by go_num, _, by first | rfl | exact World.drewN_drewN _ _ _⟩
          case measure => simp [intOf]; omega
        · go_wp2_with (first | (go_at_call 9; refine (awake39_any _).mono ?_; rintro e w99 ⟨rfl, hb99⟩))
          go_ret
          exact ⟨rfl, (below_drewN HB8.out _).trans (hb99.mono (below_drewN HB8.out nn).size)⟩

set_option maxRecDepth 100000 in
theorem lifted (os : Os) (started : os.Started) (H : Type) (enc : TypeId × Value → H) :
    ReturnsInHanded {} Try.checked os 4 .any (Rows.retroMonotoneSpec.pre6 enc Try.prog Try.f4 Rows.retroMonotoneRow.domain false) (Rows.retroMonotoneSpec.post enc Try.prog Try.f4 false true false false) := by
  refine returnsInHanded_of_change (C := Try.checked) own started (by kernel_rfl) Try.func4
    (ChangeSpec.witness6 (enc := enc) (C := Try.checked) false ⟨#[], #[.slice none 0 0, .slice none 0 0], []⟩ 8 (by kernel_rfl) (by kernel_rfl) (by kernel_rfl) (by kernel_rfl)) ?_
  intro W base args ds gs before hval0 hW hcnd _
  have hval : ∀ (j : Nat) t v, Try.f4.params[j]? = some t → args[j]? = some v → Value.okWide Try.prog W .any base t v := hval0
  have hW' := hW
  obtain ⟨p, q, hA0, hV, rfl, hfz, hnd⟩ := hW
  have hA : DataW.TrodAll enc Try.prog W 0 (fun _ => true) true Try.f4.params.toList args.toList ds p := hA0
  rw [Try.params4] at hA hval
  obtain ⟨v0, vs0, d0, ds0, p0, q0, hargs, rfl, rfl, h0, r0⟩ := trodAll_cons hA
  obtain ⟨v1, vs1, d1, ds1, p1, q1, rfl, rfl, rfl, h1, r1⟩ := trodAll_cons r0
  obtain ⟨rfl, rfl, rfl⟩ := trodAll_nil r1
  obtain rfl : args = #[v0, v1] := by cases args; simp_all
  obtain ⟨rfl, rfl⟩ := trodVars_none hV
  have k0 := h0
  have lt0 : ∀ x ∈ p0, x.block < W.heap.size := by obtain ⟨m, hm⟩ := k0; exact DataW.trod_lt m _ _ _ hm
  obtain ⟨a0, len0, cap0, rfl⟩ := okWide_slice Try.underlying22 (hval 0 22 v0 rfl rfl)
  have r100 : Rd22 W [.slice a0 len0 cap0] := by obtain ⟨fuel, hf⟩ := h0; exact rd22 hf
  have k1 := h1
  have lt1 : ∀ x ∈ p1, x.block < W.heap.size := by obtain ⟨m, hm⟩ := k1; exact DataW.trod_lt m _ _ _ hm
  obtain ⟨a1, len1, cap1, rfl⟩ := okWide_slice Try.underlying22 (hval 1 22 v1 rfl rfl)
  have r101 : Rd22 W [.slice a1 len1 cap1] := by obtain ⟨fuel, hf⟩ := h1; exact rd22 hf
  clear hA0 hval0
  refine (walk _ _ W r100 r101).mono fun e W' ⟨he, bel⟩ => ?_
  subst he
  exact ⟨_, rfl, _, _, _, [], _, [], hW', trodAll_mk1 (shut_bool Try.underlying4 _), (trodAll_cons_mk (Below.trod laidOut (by kernel_rfl) (of_decide_eq_true (by kernel_rfl)) k0 bel lt0) (trodAll_cons_mk (Below.trod laidOut (by kernel_rfl) (of_decide_eq_true (by kernel_rfl)) k1 bel lt1) trodAll_mk0)), rfl, bel.frame _, fun h => by cases h⟩

theorem over : Rows.retroMonotoneRow.holds Try.pinned (OpenSpec.ofChange Rows.retroMonotoneSpec) :=
  OpenClaim.holds_of_wide 4 Try.f4 rfl rfl rfl rfl rfl rfl rfl ⟨rfl, rfl, rfl, rfl, rfl⟩ rfl rfl rfl rfl rfl (by kernel_rfl) Try.func4 (by kernel_rfl)
    (of_decide_eq_true (by kernel_rfl)) (by unfold Func.isWrapper; first | (rw [if_pos (by decide +kernel)]; kernel_rfl) | (rw [if_neg (by decide +kernel)]; exact ⟨rfl, rfl⟩))
    (fun os started H enc _ => lifted os started H enc)

/-- the statement -/
theorem proved : Rows.RetroMonotoneSaid := over
#print axioms proved
end Go.Proofs.Ytdfajopniflaaaa.retroMonotone
