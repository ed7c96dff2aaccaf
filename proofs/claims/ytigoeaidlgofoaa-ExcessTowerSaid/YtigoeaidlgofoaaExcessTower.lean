/- The law ExcessTower: Tower returns the specified recoveries or error, for all layers. No condition. -/
import Derived.Test.YtigoeaidlgofoaaRows
import Derived.Test.YtigoeaidlgofoaaRead
import Derived.Test.YtigoeaidlgofoaaAwake22
import Derived.Test.YtigoeaidlgofoaaIdx22
import Derived.Test.YtigoeaidlgofoaaArgs2
import Derived.Deep.RegionLaw
import Derived.WalkKit
import Derived.ProofKit
import Derived.OpenShut
import Derived.ShutString
import Derived.ChangeOld
import Derived.Below
namespace Go.Proofs.Ytigoeaidlgofoaa.excessTower
open Go.ChangeShapes Go.WideShapes Go.ChangeAt Go.RowKit
set_option linter.unusedVariables false

theorem own : ownKnob Try.prog.godebug = none := by kernel_rfl
theorem laidOut : laidOutB Try.prog = true := by kernel_rfl

set_option maxRecDepth 100000 in
theorem lay_info : (Try.prog.info? 36).map (fun i => (i.zero, i.size, i.bytes)) = some (some (.agg #[.int .i64 0, .int .i64 0]), 2, 16) := by kernel_rfl

theorem Nums.keeps {w w' : World} {B b n : Nat} {A : Option Addr} {f : Nat → Int} (h : Nums w B A n f) (hk : Keeps b w w') (hb : B ≤ b) : Nums w' B A n f := Cells.keeps h hk hb

/-- what holds at the head of every round -/
def Rel (w2 : World) (b B : Nat) (v at' i : Value) (wr : World) : Prop := ∃ (k : Nat) (t : Int) (ps : List (Int × Int)), k + ps.length ≤ 5 ∧ i = .int .i64 k ∧ at' = .int .i64 t ∧ -(ps.length : Int) ≤ t ∧ t ≤ 1000 + 1073741826 * ps.length ∧
  wr.ownsRow B 36 2 v ps.length (cellsOf ps) ∧ Keeps b w2 wr ∧ IsDeck wr b

set_option maxHeartbeats 4000000 in
set_option maxRecDepth 100000 in
theorem walk (v0 : Value) (v1 : Value) (v2 : Value) (v3 : Value) (w : World) (h0 : Rd3 w [v0]) (h1 : Rd30 w [v1]) (h2 : Rd22 w [v2]) (h3 : Rd3 w [v3]) :
    Calls Try.prog 5 #[v0, v1, v2, v3] w fun e w' => e = .returned (.bool true) ∧ Below w.heap.size w w' := by
  obtain ⟨a, rfl, _, _⟩ := rd_i64 h0
  obtain ⟨A1, n1, c1, f1, g1, rfl, hn1, _, _, hp1, _⟩ := rd_layer h1
  obtain ⟨A, n, c, z, rfl, hn, _, _, hc, _⟩ := rd_ints h2
  obtain ⟨gap, rfl, _, _⟩ := rd_i64 h3
  have HC := Lib.hid hc
  have HP1 := Lib.hid hp1
  clear h0 h1 h2 h3 hc hp1
  by_cases hl1 : 100 < n1
  · go_enter Try.func5, Try.ntmps5
    go_wp2_with (first | (go_at_call 16; refine (awake22_any _).mono ?_; rintro e w9 ⟨rfl, hb9⟩))
    go_ret
    exact ⟨rfl, hb9⟩
  have hl1' : n1 ≤ 100 := by omega
  clear hl1
  obtain ⟨i0, hi0, hz0, hz1, hz2⟩ := info_parts lay_info
  have HI := Lib.hid hi0
  have HZ0 := Lib.hid hz0
  have HZ1 := Lib.hid hz1
  have HZ2 := Lib.hid hz2
  clear hi0 hz0 hz1 hz2
  obtain ⟨T1, hT1⟩ : ∃ t, Ex.terr a n1 f1 g1 = t := ⟨_, rfl⟩
  have HT1 := Lib.hid hT1
  clear hT1
  go_enter Try.func5, Try.ntmps5
  go_wp2_with fail
  refine (tower_any a A1 n1 c1 f1 g1 w hn1 HP1.out).mono ?_
  rintro e w1 ⟨X, mx, cx, rfl, hb, hmx, hx⟩
  have HB := Lib.hid hb
  have hz1 := hb.size
  have HX := Lib.hid hx
  rw [HT1.out] at hmx ⊢
  have HMX := Lib.hid hmx
  clear hb hx hmx
  go_wp2_with fail
  refine (rtower_any a A1 n1 c1 f1 g1 w1 hn1 ((HP1.out.below HB.out).mono hz1)).mono ?_
  rintro e w2 ⟨Y, my, cy, rfl, hb, hmy, hy⟩
  replace HB : Hid (Below w.heap.size w w2) := Lib.hid (HB.out.trans (hb.mono hz1))
  replace HX := Lib.hid (HX.out.below hb)
  have HY := Lib.hid hy
  have hz12 := hb.size
  have hz2 := HB.out.size
  rw [HT1.out] at hmy ⊢
  have hmm : mx = my := by rw [HMX.out, hmy]
  subst hmm
  have hmx5 : mx ≤ 100 := by rw [HMX.out]; split <;> omega
  clear hb hy HT1 HMX hmy HP1
  go_wp2_with fail
  refine (deck_new A n c z w2 hn ((HC.out.below HB.out).mono hz2)).mono ?_
  rintro e w3 ⟨rfl, hb, hd⟩
  have HK0 : Hid (Below w2.heap.size w2 w3) := Lib.hid hb
  have HD := Lib.hid hd
  have hz3 := hb.size
  clear hb hd HC
  have HK := Lib.hid (Keeps.of_below HK0.out w2.heap.size)
  go_wp2_with fail
  refine (upto_any _ 1000 _ HD.out (by omega) (by omega)).mono ?_
  rintro e w4 ⟨t0, rfl, t00, t01, hk2, hd2⟩
  replace HK := Lib.hid (HK.out.trans hk2)
  replace HD := Lib.hid hd2
  clear hk2 hd2
  go_wp2_with fail
  refine (next_any _ 6 _ HD.out (by omega) (by omega)).mono ?_
  rintro e w5 ⟨k0, rfl, k00, k01, hk2, hd2⟩
  replace HK := Lib.hid (HK.out.trans hk2)
  replace HD := Lib.hid hd2
  clear hk2 hd2
  obtain ⟨kn, rfl⟩ : ∃ n : Nat, k0 = n := ⟨k0.toNat, by omega⟩
  go_wp2_with fail
  go_loopw [14, 15, 16, 17] (fun v t i _ wr => Rel w2 w2.heap.size (w2.heap.size + 1) v t i wr) (fun _ _ i _ _ => (intOf i).toNat)
  case atStart => exact ⟨kn, t0, [], by simp; omega, rfl, rfl, by simp; omega, by simp; omega, ⟨rfl, .inl ⟨rfl, rfl⟩⟩, HK.out, HD.out⟩
  case round =>
    obtain ⟨k, t, ps, hkp, rfl, rfl, ht0, ht1, ho, hk, hd⟩ := hrel
    clear HK HD
    have HO := Lib.hid ho
    have HK := Lib.hid hk
    have HD := Lib.hid hd
    have hdl := hd.lt
    clear ho hk hd
    by_cases hz : k = 0
    · subst hz
      have hzr := HK.out.size
      obtain ⟨M, cm, hv, HPM, hmb⟩ : ∃ (M : Option Addr) (cm : Nat), u14 = .slice M ps.length cm ∧ Hid (Pairs wr wr.heap.size M ps.length (fstOf ps) (sndOf ps)) ∧ Hid (∀ ad, M = some ad → ad.block ≠ w2.heap.size) := by
        rcases HO.out.2 with ⟨hv, hv0⟩ | ⟨g, cap, cur, hv, hg, _, _, _, _, _⟩
        · exact ⟨none, 0, by rw [hv, hv0], Lib.hid (by rw [hv0]; exact Pairs.zero), Lib.hid fun ad h => by cases h⟩
        · have ho := HO.out
          rw [hv] at ho
          exact ⟨_, cap, hv, Lib.hid (Pairs.of_own ho), Lib.hid fun ad h => by injection h with h; subst h; simp only; omega⟩
      subst hv
      go_wp2_with fail
      refine (upto_any _ 4294967296 _ HD.out (by omega) (by omega)).mono ?_
      rintro e w6 ⟨bs, rfl, bs0, bs1, hk2, hd2⟩
      replace HPM := Lib.hid (HPM.out.keeps_ne hk2 hmb.out)
      replace HK := Lib.hid (HK.out.trans hk2)
      clear hk2 hd2 HD HO
      have HB6 : Hid (Below w2.heap.size w2 w6) := Lib.hid (HK.out.new (Nat.le_refl _))
      obtain ⟨mm, hmm⟩ : ∃ m, ps.length = m := ⟨_, rfl⟩
      rw [hmm] at HPM hkp ⊢
      have HX6 := Lib.hid (HX.out.below (HB6.out.mono hz12))
      have HY6 := Lib.hid (HY.out.below HB6.out)
      have hz6 := HB6.out.size
      obtain ⟨T2, hT2⟩ : ∃ t, Ex.terr bs mm (fstOf ps) (sndOf ps) = t := ⟨_, rfl⟩
      have HT2 := Lib.hid hT2
      clear hT2 hmm
      go_wp2_with fail
      refine (tower_any bs M mm cm (fstOf ps) (sndOf ps) w6 (by omega) HPM.out).mono ?_
      rintro e w7 ⟨U, mu, cu, rfl, hb, hmu, hu⟩
      have HB7 : Hid (Below w2.heap.size w2 w7) := Lib.hid (HB6.out.trans (hb.mono hz6))
      have HX7 := Lib.hid (HX6.out.below (hb.mono (by omega)))
      have HY7 := Lib.hid (HY6.out.below (hb.mono hz6))
      have HU7 := Lib.hid hu
      have HPM7 := Lib.hid ((HPM.out.below hb).mono hb.size)
      have hz67 := hb.size
      rw [HT2.out] at hmu ⊢
      have HMU := Lib.hid hmu
      clear hb hu hmu
      go_wp2_with fail
      refine (rtower_any bs M mm cm (fstOf ps) (sndOf ps) w7 (by omega) HPM7.out).mono ?_
      rintro e w8 ⟨V, mv, cv, rfl, hb, hmv, hv⟩
      have HB8 : Hid (Below w.heap.size w w8) := Lib.hid (HB.out.trans ((HB7.out.trans (hb.mono (by omega))).mono hz2))
      have HX8 := Lib.hid (HX7.out.below (hb.mono (by omega)))
      have HY8 := Lib.hid (HY7.out.below (hb.mono (by omega)))
      have HU8 := Lib.hid (HU7.out.below hb)
      have HV8 := Lib.hid hv
      rw [HT2.out] at hmv ⊢
      have hmm2 : mu = mv := by rw [HMU.out, hmv]
      subst hmm2
      have hmu5 : mu ≤ 5 := by rw [HMU.out]; split <;> omega
      clear hb hv HT2 HMU hmv
      go_wp2_with fail
      refine (same_yes X Y mx cx cy _ _ _ _ (by omega) HX8.out HY8.out).mono ?_
      rintro e w9 ⟨rfl, nq, rfl⟩
      go_wp2_with fail
      refine (same_yes U V mu cu cv _ _ _ _ (by omega) (HU8.out.drewN nq) (HV8.out.drewN nq)).mono ?_
      rintro e w10 ⟨rfl, nq2, rfl⟩
      go_wp2_with fail
      refine (awake22_any _).mono ?_
      rintro e w9 ⟨rfl, hb9⟩
      go_wp2_with fail
      go_ret
      exact ⟨rfl, (below_drewN HB8.out _).trans (hb9.mono (below_drewN HB8.out (nq + nq2)).size)⟩
    · have hk1 : (0 : Int) < k := by omega
      have ht2 : -10 ≤ t ∧ t ≤ 10000000000 := by omega
      obtain ⟨ht3, ht4⟩ := ht2
      have hbb : w2.heap.size < w2.heap.size + 1 := by omega
      go_wp2_with fail
      refine (next_any _ 3 _ HD.out (by omega) (by omega)).mono ?_
      rintro e wx ⟨x, rfl, x0, x1, hk2, hd2⟩
      replace HO := Lib.hid (own_keeps HO.out hk2 hbb)
      replace HK := Lib.hid (HK.out.trans hk2)
      replace HD := Lib.hid hd2
      clear hk2 hd2
      go_wp2_with fail
      refine (next_any _ 5 _ HD.out (by omega) (by omega)).mono ?_
      rintro e wy ⟨y, rfl, y0, y1, hk2, hd2⟩
      replace HO := Lib.hid (own_keeps HO.out hk2 hbb)
      replace HK := Lib.hid (HK.out.trans hk2)
      replace HD := Lib.hid hd2
      clear hk2 hd2
      go_wp2_with fail
      refine (upto_any _ 1073741824 _ HD.out (by omega) (by omega)).mono ?_
      rintro e wz ⟨q, rfl, q0, q1, hk2, hd2⟩
      replace HO := Lib.hid (own_keeps HO.out hk2 hbb)
      have HOZ := HO
      replace HK := Lib.hid (HK.out.trans hk2)
      replace HD := Lib.hid hd2
      clear hk2 hd2
      go_wp2_with fail
      obtain ⟨R, hR⟩ : ∃ R, t + x - y / 4 = R := ⟨_, rfl⟩
      have hR0 : t - 1 ≤ R ∧ R ≤ t + 2 := by omega
      obtain ⟨hR1, hR2⟩ := hR0
      rw [hR]
      obtain ⟨wd, hwd⟩ : ∃ wd, wz.alloc (.cells #[.int .i64 R, .int .i64 q] 36) = wd := ⟨_, rfl⟩
      have HZ : Hid (Has wd wz.heap.size #[.int .i64 R, .int .i64 q] 36) := Lib.hid (by rw [← hwd]; exact Has.new wz _ _)
      replace HO : Hid (wd.ownsRow (w2.heap.size + 1) 36 2 u14 ps.length (cellsOf ps)) := Lib.hid (by rw [← hwd]; exact HO.out.alloc _)
      replace HK : Hid (Keeps w2.heap.size w2 wd) := Lib.hid (by rw [← hwd]; exact HK.out.alloc _)
      have HR : Hid (∀ q, u14.ownBlock = some q → q ≠ wz.heap.size) := Lib.hid fun q hq => by
        rcases HOZ.out.2 with ⟨hv, _⟩ | ⟨g, cap, cur, hv, _, hh, _⟩
        · subst hv; simp [Value.ownBlock] at hq
        · subst hv
          simp only [Value.ownBlock, Option.some.injEq] at hq
          have := Has.lt (t := 36) (cs := cur) hh
          omega
      replace HD : Hid (IsDeck wd w2.heap.size) := Lib.hid (by rw [← hwd]; exact HD.out.alloc _)
      obtain ⟨bz, hbz⟩ : ∃ b, wz.heap.size = b := ⟨_, rfl⟩
      rw [hbz] at HZ HR ⊢
      rw [hwd]
      clear hwd hbz hR HOZ
      have hsd := HK.out.size
      have hdd := HD.out.lt
      obtain ⟨r0, r1, r2⟩ := HZ.out.rules
      have hc0 := r0 0
      have hc1 := r0 1
      simp only [List.getElem?_toArray, List.getElem?_cons_zero, List.getElem?_cons_succ] at hc0 hc1
      have hwR : IntKind.i64.wrap (R + q) = R + q := by rw [IntKind.wrap_i64]; omega
      go_region_law (first
        | (refine step_append_lies _ (by rfl) _ _ _ (by rfl) (w2.heap.size + 1) 36 i0 _ 2 16 Try.underlying30 HI.out HZ0.out HZ1.out HZ2.out rfl (by omega) u14 ps.length (cellsOf ps) (by rfl) ((HO.out.alloc _).drew) ⟨wd.heap.size, 0, none⟩ 1 1 [.int .i64 R, .int .i64 q] (by rfl) (by rfl) (World.news_of_block (cs := #[.int .i64 R, .int .i64 q]) (t := 36) (fr := (0, 0)) (heap_alloc_new wd _)) (by simp [Value.oneCell']) (by omega) (by unfold maxLen; omega) (by omega) (by simp; omega) (wd.heap.size + 1) (by simp) ?_; intro gg cap w4 hown hgrow hat hlt; have HZ4 : Hid (Has w4 bz #[.int .i64 R, .int .i64 q] 36) := Lib.hid ((hgrow.block bz (by simp; omega) (fun e => HR.out bz e.symm rfl)).trans (HZ.out.alloc _)); obtain ⟨s0, s1, s2⟩ := HZ4.out.rules; have hd0 := s0 0; have hd1 := s0 1; simp only [List.getElem?_toArray, List.getElem?_cons_zero, List.getElem?_cons_succ] at hd0 hd1))
      all_goals
        have HO2 : Hid (w4.ownsRow (w2.heap.size + 1) 36 2 (.slice (some ⟨gg, 0, none⟩) (ps.length + 1) cap) (ps.length + 1) (cellsOf (ps ++ [(R, q)]))) := Lib.hid (by rw [cellsOf_snoc]; exact hown)
        have HK2 : Hid (Keeps w2.heap.size w2 w4) := Lib.hid (((HK.out.alloc _).drewN 1).grown hgrow fun q hq => by obtain ⟨_, _, hg⟩ := own_form HO.out hq; omega)
        have HD2 : Hid (IsDeck w4 w2.heap.size) := Lib.hid (((HD.out.alloc _).drewN 1).below ((Below.refl (w2.heap.size + 1) _).grown hgrow (by simp; omega) fun q hq => by obtain ⟨_, _, hg⟩ := own_form HO.out hq; exact hg) (by omega))
        clear hown hgrow hat hwR r0 r1 s0 s1 hc0 hc1 hd0 hd1
        go_wp2_with fail
        go_roundw
        case rel => exact ⟨k - 1, R + q, ps ++ [(R, q)], by simp; omega, by congr 1; omega, rfl, by simp; omega, by simp; omega, by rw [List.length_append]; exact HO2.out, HK2.out, HD2.out⟩
        case measure => simp [intOf]; omega

set_option maxRecDepth 100000 in
theorem lifted (os : Os) (started : os.Started) (H : Type) (enc : TypeId × Value → H) :
    ReturnsInHanded {} Try.checked os 5 .any (Rows.excessTowerSpec.pre6 enc Try.prog Try.f5 Rows.excessTowerRow.domain false) (Rows.excessTowerSpec.post enc Try.prog Try.f5 false true false false) := by
  refine returnsInHanded_of_change (C := Try.checked) own started (by kernel_rfl) Try.func5
    (ChangeSpec.witness6 (enc := enc) (C := Try.checked) false ⟨#[], #[.int .i64 0, .slice none 0 0, .slice none 0 0, .int .i64 0], []⟩ 8 (by kernel_rfl) (by kernel_rfl) (by kernel_rfl) (by kernel_rfl)) ?_
  intro W base args ds gs before hval0 hW hcnd _
  have hval : ∀ (j : Nat) t v, Try.f5.params[j]? = some t → args[j]? = some v → Value.okWide Try.prog W .any base t v := hval0
  have hW' := hW
  obtain ⟨p, q, hA0, hV, rfl, hfz, hnd⟩ := hW
  have hA : DataW.TrodAll enc Try.prog W 0 (fun _ => true) true Try.f5.params.toList args.toList ds p := hA0
  rw [Try.params5] at hA hval
  obtain ⟨v0, vs0, d0, ds0, p0, q0, hargs, rfl, rfl, h0, r0⟩ := trodAll_cons hA
  obtain ⟨v1, vs1, d1, ds1, p1, q1, rfl, rfl, rfl, h1, r1⟩ := trodAll_cons r0
  obtain ⟨v2, vs2, d2, ds2, p2, q2, rfl, rfl, rfl, h2, r2⟩ := trodAll_cons r1
  obtain ⟨v3, vs3, d3, ds3, p3, q3, rfl, rfl, rfl, h3, r3⟩ := trodAll_cons r2
  obtain ⟨rfl, rfl, rfl⟩ := trodAll_nil r3
  obtain rfl : args = #[v0, v1, v2, v3] := by cases args; simp_all
  obtain ⟨rfl, rfl⟩ := trodVars_none hV
  have k0 := h0
  have lt0 : ∀ x ∈ p0, x.block < W.heap.size := by obtain ⟨m, hm⟩ := k0; exact DataW.trod_lt m _ _ _ hm
  obtain ⟨a0, rfl⟩ := okWide_int Try.underlying3 (hval 0 3 v0 rfl rfl)
  have r100 : Rd3 W [.int .i64 a0] := by obtain ⟨fuel, hf⟩ := h0; exact rd3 hf
  have k1 := h1
  have lt1 : ∀ x ∈ p1, x.block < W.heap.size := by obtain ⟨m, hm⟩ := k1; exact DataW.trod_lt m _ _ _ hm
  obtain ⟨a1, len1, cap1, rfl⟩ := okWide_slice Try.underlying30 (hval 1 30 v1 rfl rfl)
  have r101 : Rd30 W [.slice a1 len1 cap1] := by obtain ⟨fuel, hf⟩ := h1; exact rd30 hf
  have k2 := h2
  have lt2 : ∀ x ∈ p2, x.block < W.heap.size := by obtain ⟨m, hm⟩ := k2; exact DataW.trod_lt m _ _ _ hm
  obtain ⟨a2, len2, cap2, rfl⟩ := okWide_slice Try.underlying22 (hval 2 22 v2 rfl rfl)
  have r102 : Rd22 W [.slice a2 len2 cap2] := by obtain ⟨fuel, hf⟩ := h2; exact rd22 hf
  have k3 := h3
  have lt3 : ∀ x ∈ p3, x.block < W.heap.size := by obtain ⟨m, hm⟩ := k3; exact DataW.trod_lt m _ _ _ hm
  obtain ⟨a3, rfl⟩ := okWide_int Try.underlying3 (hval 3 3 v3 rfl rfl)
  have r103 : Rd3 W [.int .i64 a3] := by obtain ⟨fuel, hf⟩ := h3; exact rd3 hf
  clear hA0 hval0
  refine (walk _ _ _ _ W r100 r101 r102 r103).mono fun e W' ⟨he, bel⟩ => ?_
  subst he
  exact ⟨_, rfl, _, _, _, [], _, [], hW', trodAll_mk1 (shut_bool Try.underlying4 _), (trodAll_cons_mk (Below.trod laidOut (by kernel_rfl) (of_decide_eq_true (by kernel_rfl)) k0 bel lt0) (trodAll_cons_mk (Below.trod laidOut (by kernel_rfl) (of_decide_eq_true (by kernel_rfl)) k1 bel lt1) (trodAll_cons_mk (Below.trod laidOut (by kernel_rfl) (of_decide_eq_true (by kernel_rfl)) k2 bel lt2) (trodAll_cons_mk (Below.trod laidOut (by kernel_rfl) (of_decide_eq_true (by kernel_rfl)) k3 bel lt3) trodAll_mk0)))), rfl, bel.frame _, fun h => by cases h⟩

theorem over : Rows.excessTowerRow.holds Try.pinned (OpenSpec.ofChange Rows.excessTowerSpec) :=
  OpenClaim.holds_of_wide 5 Try.f5 rfl rfl rfl rfl rfl rfl rfl ⟨rfl, rfl, rfl, rfl, rfl⟩ rfl rfl rfl rfl rfl (by kernel_rfl) Try.func5 (by kernel_rfl)
    (of_decide_eq_true (by kernel_rfl)) (by unfold Func.isWrapper; first | (rw [if_pos (by decide +kernel)]; kernel_rfl) | (rw [if_neg (by decide +kernel)]; exact ⟨rfl, rfl⟩))
    (fun os started H enc _ => lifted os started H enc)

/-- the statement -/
theorem proved : Rows.ExcessTowerSaid := over
#print axioms proved
end Go.Proofs.Ytigoeaidlgofoaa.excessTower
