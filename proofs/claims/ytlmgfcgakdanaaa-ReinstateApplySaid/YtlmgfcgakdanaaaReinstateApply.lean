/- The law ReinstateApply: Apply returns the specified uses or error, for all hours and recoveries. No condition. -/
import Derived.Test.YtlmgfcgakdanaaaRows
import Derived.Test.YtlmgfcgakdanaaaRead
import Derived.Test.YtlmgfcgakdanaaaEv28
import Derived.Test.YtlmgfcgakdanaaaApR
import Derived.Test.YtlmgfcgakdanaaaArgs
import Derived.WalkKit
import Derived.ProofKit
import Derived.OpenShut
import Derived.ShutString
import Derived.ChangeOld
import Derived.Below
namespace Go.Proofs.Ytlmgfcgakdanaaa.reinstateApply
open Go.ChangeShapes Go.WideShapes Go.ChangeAt Go.RowKit
set_option linter.unusedVariables false

theorem own : ownKnob Try.prog.godebug = none := by kernel_rfl
theorem laidOut : laidOutB Try.prog = true := by kernel_rfl

theorem rd_cap {w : World} {A : Option Addr} {n c : Nat} (h : Rd24 w [.slice A n c]) : c ≤ 9223372036854775807 := by
  rcases h with h | ⟨a, len, cap, h, h1, h2, h3⟩
  · injection h with h
    injection h with _ _ h
    omega
  · injection h with h
    injection h with _ _ h
    unfold maxLen at h2
    omega

set_option maxHeartbeats 4000000 in
set_option maxRecDepth 100000 in
theorem walk (v0 : Value) (v1 : Value) (v2 : Value) (v3 : Value) (w : World) (h0 : Rd24 w [v0]) (h1 : Rd24 w [v1]) (h2 : Rd24 w [v2]) (h3 : Rd24 w [v3]) :
    Calls Try.prog 4 #[v0, v1, v2, v3] w fun e w' => e = .returned (.bool true) ∧ Below w.heap.size w w' := by
  obtain ⟨Ah, nh, ch, fh, rfl, hnh, hch, hch2, hh, _⟩ := rd_ints h0
  obtain ⟨Ar, nr, cr, fr, rfl, hnr, hcr, hcr2, hr, _⟩ := rd_ints h1
  have hcap : cr ≤ 9223372036854775807 := rd_cap h1
  obtain ⟨Ad, nd, cd, fd, rfl, hnd, _, _, hd, _⟩ := rd_ints h2
  obtain ⟨Ao, no, co, fo, rfl, hno, _, _, ho, _⟩ := rd_ints h3
  have HH : Hid (Nums w w.heap.size Ah nh fh) := Lib.hid hh
  have HRR : Hid (Nums w w.heap.size Ar nr fr) := Lib.hid hr
  have HDD := Lib.hid hd
  have HOO := Lib.hid ho
  have HTI := Lib.hid ty_info
  clear h0 h1 h2 h3 hh hr hd ho
  by_cases hg1 : 80 < nh
  · have hd1 : decide ((80 : Int) < nh) = true := by rw [decide_eq_true_iff]; omega
    go_enter Try.func4, Try.ntmps4
    go_wp2_with (first | (go_at_call 10; refine (awake28_any _).mono ?_; rintro e w9 ⟨rfl, hb9⟩))
    go_ret
    exact ⟨rfl, hb9⟩
  have hd1 : decide ((80 : Int) < nh) = false := by rw [decide_eq_false_iff_not]; omega
  by_cases hg2 : 80 < nr
  · have hd2 : decide ((80 : Int) < nr) = true := by rw [decide_eq_true_iff]; omega
    clear hg1
    go_enter Try.func4, Try.ntmps4
    go_wp2_with (first | (go_at_call 10; refine (awake28_any _).mono ?_; rintro e w9 ⟨rfl, hb9⟩))
    go_ret
    exact ⟨rfl, hb9⟩
  have hd2 : decide ((80 : Int) < nr) = false := by rw [decide_eq_false_iff_not]; omega
  have hn80 : nr ≤ 80 := by omega
  clear hg1 hg2
  go_enter Try.func4, Try.ntmps4
  go_wp2_with fail
  refine (m2new_any Ad nd cd fd w hnd HDD.out).mono ?_
  rintro e w1 ⟨rfl, hb, hdk⟩
  have HB := Lib.hid hb
  have HD := Lib.hid hdk
  clear hb hdk HDD
  go_wp2_with fail
  refine (dexcess_any _ _ HD.out).mono ?_
  rintro e w2 ⟨t, rfl, hx, hin, hov, hk2, hd2'⟩
  have HX0 := Lib.hid hx
  have HIN := Lib.hid hin
  replace HB : Hid (Below w.heap.size w w2) := Lib.hid (HB.out.trans (hk2.below (Nat.le_refl _) HB.out.size))
  clear hx hin hov hk2 hd2' HD
  go_upto_region 4 with ((refine wpList_store_has ?_ 27 (.tmp 9) (.tmp 31) ?_ w2.heap.size ?_ t.cells ?_ _ _ (Has.new w2 _ _) HTI.out ?_ ?_ ?_; rfl; rfl; rfl; rfl; rfl; rfl; intro w3 hh3 hl3))
  try simp only [Act.put]
  have hb3 : Below w2.heap.size w2 w3 := ((Below.refl _ _).alloc (Nat.le_refl _) _).trans (hl3.below (fun k hk => by omega) (by simp))
  have HS : Hid (RnSt w w2.heap.size t w3) := Lib.hid ⟨hh3, HIN.out.below hb3, HB.out.trans (hb3.mono HB.out.size), HB.out.size⟩
  obtain ⟨T, hT⟩ : ∃ T, w2.heap.size = T := ⟨_, rfl⟩
  rw [hT] at HS ⊢
  clear hT hb3 hh3 hl3 HB HIN
  go_wp2_with fail
  refine (events28_any Ao no co fo w3 hno (HS.out.nums HOO.out)).mono ?_
  rintro e w4 ⟨gh, gl, m, eh, el, rfl, hm12, hn1, hn2, _, _, hb⟩
  replace HS := Lib.hid (HS.out.next hb)
  have HN1 := Lib.hid hn1
  have HN2 := Lib.hid hn2
  clear hb hn1 hn2 HOO
  try simp only
  obtain ⟨er1, hr1⟩ : ∃ r, t.aerr nh fh nr fr = r := ⟨_, rfl⟩
  obtain ⟨er2, hr2⟩ : ∃ r, t.aerr m eh m el = r := ⟨_, rfl⟩
  obtain ⟨m1, hm1⟩ : ∃ r, cnt er1 nr = r := ⟨_, rfl⟩
  obtain ⟨m2, hm2⟩ : ∃ r, cnt er2 m = r := ⟨_, rfl⟩
  obtain ⟨U1, hU1⟩ : ∃ r, t.uses fh fr = r := ⟨_, rfl⟩
  obtain ⟨U2, hU2⟩ : ∃ r, t.uses eh el = r := ⟨_, rfl⟩
  have hml1 : m1 ≤ 80 := by have := cnt_le er1 nr; omega
  have hml2 : m2 ≤ 80 := by have := cnt_le er2 m; omega
  have C1 : Hid (∀ W, t.In W W.heap.size → Nums W W.heap.size Ah nh fh → Nums W W.heap.size Ar nr fr → Calls Try.prog 21 #[.agg t.cells, .slice Ah nh ch, .slice Ar nr cr] W (BothPost er1 m1 U1 W)) := Lib.hid fun W a b c => by
    rw [← hm1, ← hr1, ← hU1]; exact (reapply_any t Ah nh ch fh Ar nr cr fr W a hnh hnr b c).mono fun _ _ h => h.both
  have C2 : Hid (∀ W, t.In W W.heap.size → Nums W W.heap.size Ah nh fh → Nums W W.heap.size Ar nr fr → Calls Try.prog 22 #[.agg t.cells, .slice Ah nh ch, .slice Ar nr cr] W (BothPost er1 m1 U1 W)) := Lib.hid fun W a b c => by
    rw [← hm1, ← hr1, ← hU1]; exact (rreapply_any t Ah nh ch fh Ar nr cr fr W a hnh hnr hcr hcap b c).mono fun _ _ h => h.both
  have C3 : Hid (∀ W, t.In W W.heap.size → Nums W W.heap.size (some ⟨gh, 0, none⟩) m eh → Nums W W.heap.size (some ⟨gl, 0, none⟩) m el → Calls Try.prog 21 #[.agg t.cells, .slice (some ⟨gh, 0, none⟩) m m, .slice (some ⟨gl, 0, none⟩) m m] W (BothPost er2 m2 U2 W)) := Lib.hid fun W a b c => by
    rw [← hm2, ← hr2, ← hU2]; exact (reapply_any t _ m m eh _ m m el W a (by omega) (by omega) b c).mono fun _ _ h => h.both
  have C4 : Hid (∀ W, t.In W W.heap.size → Nums W W.heap.size (some ⟨gh, 0, none⟩) m eh → Nums W W.heap.size (some ⟨gl, 0, none⟩) m el → Calls Try.prog 22 #[.agg t.cells, .slice (some ⟨gh, 0, none⟩) m m, .slice (some ⟨gl, 0, none⟩) m m] W (BothPost er2 m2 U2 W)) := Lib.hid fun W a b c => by
    rw [← hm2, ← hr2, ← hU2]; exact (rreapply_any t _ m m eh _ m m el W a (by omega) (by omega) (by omega) (by omega) b c).mono fun _ _ h => h.both
  clear hr1 hr2 hm1 hm2 hU1 hU2 hd1 hd2
  go_wp2_with ((refine wpList_load_has ?_ 27 (.tmp 9) ?_ T ?_ _ _ _ HS.out.box Try.underlying27 ?_ HTI.out ?_; rfl; rfl; rfl; rfl))
  refine (C1.out _ HS.out.inn (HS.out.nums HH.out) (HS.out.nums HRR.out)).mono ?_
  rintro e x1 ⟨B1, k1, rfl, htr, hb⟩
  have HT1 := Lib.hid htr
  replace HN1 := Lib.hid ((HN1.out.below hb).mono hb.size)
  replace HN2 := Lib.hid ((HN2.out.below hb).mono hb.size)
  replace HS := Lib.hid (HS.out.next hb)
  clear htr hb C1
  try simp only
  go_wp2_with ((refine wpList_load_has ?_ 27 (.tmp 9) ?_ T ?_ _ _ _ HS.out.box Try.underlying27 ?_ HTI.out ?_; rfl; rfl; rfl; rfl))
  refine (C2.out _ HS.out.inn (HS.out.nums HH.out) (HS.out.nums HRR.out)).mono ?_
  rintro e x2 ⟨B2, k2, rfl, htr, hb⟩
  have HT2 := Lib.hid htr
  replace HN1 := Lib.hid ((HN1.out.below hb).mono hb.size)
  replace HN2 := Lib.hid ((HN2.out.below hb).mono hb.size)
  replace HT1 := Lib.hid ((HT1.out.below hb).mono hb.size)
  replace HS := Lib.hid (HS.out.next hb)
  clear htr hb C2
  try simp only
  go_wp2_with ((refine wpList_load_has ?_ 27 (.tmp 9) ?_ T ?_ _ _ _ HS.out.box Try.underlying27 ?_ HTI.out ?_; rfl; rfl; rfl; rfl))
  refine (C3.out _ HS.out.inn HN1.out HN2.out).mono ?_
  rintro e x3 ⟨B3, k3, rfl, htr, hb⟩
  have HT3 := Lib.hid htr
  replace HN1 := Lib.hid ((HN1.out.below hb).mono hb.size)
  replace HN2 := Lib.hid ((HN2.out.below hb).mono hb.size)
  replace HT1 := Lib.hid ((HT1.out.below hb).mono hb.size)
  replace HT2 := Lib.hid ((HT2.out.below hb).mono hb.size)
  replace HS := Lib.hid (HS.out.next hb)
  clear htr hb C3
  try simp only
  go_wp2_with ((refine wpList_load_has ?_ 27 (.tmp 9) ?_ T ?_ _ _ _ HS.out.box Try.underlying27 ?_ HTI.out ?_; rfl; rfl; rfl; rfl))
  refine (C4.out _ HS.out.inn HN1.out HN2.out).mono ?_
  rintro e x4 ⟨B4, k4, rfl, htr, hb⟩
  have HT4 := Lib.hid htr
  replace HT1 := Lib.hid ((HT1.out.below hb).mono hb.size)
  replace HT2 := Lib.hid ((HT2.out.below hb).mono hb.size)
  replace HT3 := Lib.hid ((HT3.out.below hb).mono hb.size)
  replace HS := Lib.hid (HS.out.next hb)
  clear htr hb C4
  try simp only
  have HBE := Lib.hid HS.out.below
  clear HS HN1 HN2
  go_wp2_with fail
  refine (sameuses_yes _ _ m1 _ _ U1 _ _ _ (by omega) HT1.out HT2.out).mono ?_
  rintro e x5 ⟨rfl, q1, rfl⟩
  go_wp2_with fail
  refine (sameuses_yes _ _ m2 _ _ U2 _ _ _ (by omega) (HT3.out.drewN q1) (HT4.out.drewN q1)).mono ?_
  rintro e x6 ⟨rfl, q2, rfl⟩
  replace HBE := Lib.hid (below_drewN HBE.out (q1 + q2))
  clear HT1 HT2 HT3 HT4
  go_wp2_with fail
  refine (awake28_any _).mono ?_
  rintro e w9 ⟨rfl, hb9⟩
  go_wp2_with fail
  go_ret
  exact ⟨rfl, HBE.out.trans (hb9.mono HBE.out.size)⟩

set_option maxRecDepth 100000 in
theorem lifted (os : Os) (started : os.Started) (H : Type) (enc : TypeId × Value → H) :
    ReturnsInHanded {} Try.checked os 4 .any (Rows.reinstateApplySpec.pre6 enc Try.prog Try.f4 Rows.reinstateApplyRow.domain false) (Rows.reinstateApplySpec.post enc Try.prog Try.f4 false true false false) := by
  refine returnsInHanded_of_change (C := Try.checked) own started (by kernel_rfl) Try.func4
    (ChangeSpec.witness6 (enc := enc) (C := Try.checked) false ⟨#[], #[.slice none 0 0, .slice none 0 0, .slice none 0 0, .slice none 0 0], []⟩ 8 (by kernel_rfl) (by kernel_rfl) (by kernel_rfl) (by kernel_rfl)) ?_
  intro W base args ds gs before hval0 hW hcnd _
  have hval : ∀ (j : Nat) t v, Try.f4.params[j]? = some t → args[j]? = some v → Value.okWide Try.prog W .any base t v := hval0
  have hW' := hW
  obtain ⟨p, q, hA0, hV, rfl, hfz, hnd⟩ := hW
  have hA : DataW.TrodAll enc Try.prog W 0 (fun _ => true) true Try.f4.params.toList args.toList ds p := hA0
  rw [Try.params4] at hA hval
  obtain ⟨v0, vs0, d0, ds0, p0, q0, hargs, rfl, rfl, h0, r0⟩ := trodAll_cons hA
  obtain ⟨v1, vs1, d1, ds1, p1, q1, rfl, rfl, rfl, h1, r1⟩ := trodAll_cons r0
  obtain ⟨v2, vs2, d2, ds2, p2, q2, rfl, rfl, rfl, h2, r2⟩ := trodAll_cons r1
  obtain ⟨v3, vs3, d3, ds3, p3, q3, rfl, rfl, rfl, h3, r3⟩ := trodAll_cons r2
  obtain ⟨rfl, rfl, rfl⟩ := trodAll_nil r3
  obtain rfl : args = #[v0, v1, v2, v3] := by cases args; simp_all
  obtain ⟨rfl, rfl⟩ := trodVars_none hV
  have k0 := h0
  have lt0 : ∀ x ∈ p0, x.block < W.heap.size := by obtain ⟨m, hm⟩ := k0; exact DataW.trod_lt m _ _ _ hm
  obtain ⟨a0, len0, cap0, rfl⟩ := okWide_slice Try.underlying24 (hval 0 24 v0 rfl rfl)
  have r100 : Rd24 W [.slice a0 len0 cap0] := by obtain ⟨fuel, hf⟩ := h0; exact rd24 hf
  have k1 := h1
  have lt1 : ∀ x ∈ p1, x.block < W.heap.size := by obtain ⟨m, hm⟩ := k1; exact DataW.trod_lt m _ _ _ hm
  obtain ⟨a1, len1, cap1, rfl⟩ := okWide_slice Try.underlying24 (hval 1 24 v1 rfl rfl)
  have r101 : Rd24 W [.slice a1 len1 cap1] := by obtain ⟨fuel, hf⟩ := h1; exact rd24 hf
  have k2 := h2
  have lt2 : ∀ x ∈ p2, x.block < W.heap.size := by obtain ⟨m, hm⟩ := k2; exact DataW.trod_lt m _ _ _ hm
  obtain ⟨a2, len2, cap2, rfl⟩ := okWide_slice Try.underlying24 (hval 2 24 v2 rfl rfl)
  have r102 : Rd24 W [.slice a2 len2 cap2] := by obtain ⟨fuel, hf⟩ := h2; exact rd24 hf
  have k3 := h3
  have lt3 : ∀ x ∈ p3, x.block < W.heap.size := by obtain ⟨m, hm⟩ := k3; exact DataW.trod_lt m _ _ _ hm
  obtain ⟨a3, len3, cap3, rfl⟩ := okWide_slice Try.underlying24 (hval 3 24 v3 rfl rfl)
  have r103 : Rd24 W [.slice a3 len3 cap3] := by obtain ⟨fuel, hf⟩ := h3; exact rd24 hf
  clear hA0 hval0
  refine (walk _ _ _ _ W r100 r101 r102 r103).mono fun e W' ⟨he, bel⟩ => ?_
  subst he
  exact ⟨_, rfl, _, _, _, [], _, [], hW', trodAll_mk1 (shut_bool Try.underlying4 _), (trodAll_cons_mk (Below.trod laidOut (by kernel_rfl) (of_decide_eq_true (by kernel_rfl)) k0 bel lt0) (trodAll_cons_mk (Below.trod laidOut (by kernel_rfl) (of_decide_eq_true (by kernel_rfl)) k1 bel lt1) (trodAll_cons_mk (Below.trod laidOut (by kernel_rfl) (of_decide_eq_true (by kernel_rfl)) k2 bel lt2) (trodAll_cons_mk (Below.trod laidOut (by kernel_rfl) (of_decide_eq_true (by kernel_rfl)) k3 bel lt3) trodAll_mk0)))), rfl, bel.frame _, fun h => by cases h⟩

theorem over : Rows.reinstateApplyRow.holds Try.pinned (OpenSpec.ofChange Rows.reinstateApplySpec) :=
  OpenClaim.holds_of_wide 4 Try.f4 rfl rfl rfl rfl rfl rfl rfl ⟨rfl, rfl, rfl, rfl, rfl⟩ rfl rfl rfl rfl rfl (by kernel_rfl) Try.func4 (by kernel_rfl)
    (of_decide_eq_true (by kernel_rfl)) (by unfold Func.isWrapper; first | (rw [if_pos (by decide +kernel)]; kernel_rfl) | (rw [if_neg (by decide +kernel)]; exact ⟨rfl, rfl⟩))
    (fun os started H enc _ => lifted os started H enc)

/-- the statement -/
theorem proved : Rows.ReinstateApplySaid := over
#print axioms proved
end Go.Proofs.Ytlmgfcgakdanaaa.reinstateApply
