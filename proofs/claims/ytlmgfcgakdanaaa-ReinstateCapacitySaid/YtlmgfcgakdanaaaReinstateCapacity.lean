/- The law ReinstateCapacity: the events of a period never recover more than the capacity and the aggregate allow, and no event more than by itself. No condition. -/
import Derived.Test.YtlmgfcgakdanaaaRows
import Derived.Test.YtlmgfcgakdanaaaRead
import Derived.Test.YtlmgfcgakdanaaaLwP
import Derived.Test.YtlmgfcgakdanaaaArgs
import Derived.WalkKit
import Derived.ProofKit
import Derived.OpenShut
import Derived.ShutString
import Derived.ChangeOld
import Derived.Below
namespace Go.Proofs.Ytlmgfcgakdanaaa.reinstateCapacity
open Go.ChangeShapes Go.WideShapes Go.ChangeAt Go.RowKit
set_option linter.unusedVariables false

theorem own : ownKnob Try.prog.godebug = none := by kernel_rfl
theorem laidOut : laidOutB Try.prog = true := by kernel_rfl



set_option maxHeartbeats 4000000 in
set_option maxRecDepth 100000 in
theorem walk (v0 : Value) (v1 : Value) (w : World) (h0 : Rd24 w [v0]) (h1 : Rd24 w [v1]) :
    Calls Try.prog 5 #[v0, v1] w fun e w' => e = .returned (.bool true) ∧ Below w.heap.size w w' := by
  obtain ⟨Ad, nd, cd, fd, rfl, hnd, _, _, hd, _⟩ := rd_ints h0
  obtain ⟨Ao, no, co, fo, rfl, hno, _, _, ho, _⟩ := rd_ints h1
  have HDD := Lib.hid hd
  have HOO := Lib.hid ho
  have HTI := Lib.hid ty_info
  clear h0 h1 hd ho
  go_enter Try.func5, Try.ntmps5
  go_wp2_with fail
  refine (m2new_any Ad nd cd fd w hnd HDD.out).mono ?_
  rintro e w1 ⟨rfl, hb, hdk⟩
  have HB := Lib.hid hb
  have HD := Lib.hid hdk
  clear hb hdk HDD
  go_wp2_with fail
  refine (dexcess_any _ _ HD.out).mono ?_
  rintro e w2 ⟨t, rfl, hx, hin, hov, hk2, hd2'⟩
  have HX0 := Lib.hid hx
  have HIN := Lib.hid hin
  replace HB : Hid (Below w.heap.size w w2) := Lib.hid (HB.out.trans (hk2.below (Nat.le_refl _) HB.out.size))
  clear hx hin hov hk2 hd2' HD
  go_upto_region 2 with ((refine wpList_store_has ?_ 27 (.tmp 5) (.tmp 16) ?_ w2.heap.size ?_ t.cells ?_ _ _ (Has.new w2 _ _) HTI.out ?_ ?_ ?_; rfl; rfl; rfl; rfl; rfl; rfl; intro w3 hh3 hl3))
  try simp only [Act.put]
  have hb3 : Below w2.heap.size w2 w3 := ((Below.refl _ _).alloc (Nat.le_refl _) _).trans (hl3.below (fun k hk => by omega) (by simp))
  have HS : Hid (RnSt w w2.heap.size t w3) := Lib.hid ⟨hh3, HIN.out.below hb3, HB.out.trans (hb3.mono HB.out.size), HB.out.size⟩
  obtain ⟨T, hT⟩ : ∃ T, w2.heap.size = T := ⟨_, rfl⟩
  rw [hT] at HS ⊢
  clear hT hb3 hh3 hl3 HB HIN
  go_wp2_with fail
  refine (events28_any Ao no co fo w3 hno (HS.out.nums HOO.out)).mono ?_
  rintro e w4 ⟨gh, gl, m, eh, el, rfl, hm12, hn1, hn2, bh, bl, hb⟩
  replace HS := Lib.hid (HS.out.next hb)
  have HN1 := Lib.hid hn1
  have HN2 := Lib.hid hn2
  clear hb hn1 hn2 HOO
  try simp only
  have hae : t.aerr m eh m el = 0 := Ty.aerr_small HX0.out hm12 bh bl
  obtain ⟨U, hU⟩ : ∃ U, t.uses eh el = U := ⟨_, rfl⟩
  have C1 : Hid (∀ W, t.In W W.heap.size → Nums W W.heap.size (some ⟨gh, 0, none⟩) m eh → Nums W W.heap.size (some ⟨gl, 0, none⟩) m el → Calls Try.prog 21 #[.agg t.cells, .slice (some ⟨gh, 0, none⟩) m m, .slice (some ⟨gl, 0, none⟩) m m] W (FinePost m U W)) := Lib.hid fun W a b c => by
    rw [← hU]; exact (reapply_any t _ m m eh _ m m el W a (by omega) (by omega) b c).mono fun _ _ h => h.good hae
  have HSA : Hid (∀ k : Nat, k ≤ m → 0 ≤ Ex.psum (fun i => (U i).a) k ∧ Ex.psum (fun i => (U i).a) k ≤ 17592186044416) := Lib.hid fun k _ => by
    rw [← hU, Ty.sum_a HX0.out]; exact Ty.att_bound k
  have HL : Hid ((t.agg = 0 ∨ Ex.psum (fun i => (U i).a) m ≤ t.agg) ∧ (t.cap = 0 ∨ Ex.psum (fun i => (U i).a) m ≤ t.cap)) := Lib.hid (by
    rw [← hU, Ty.sum_a HX0.out]
    exact Ty.most_le HX0.out _ _)
  have HUE : Hid (∀ k, k < m → (0 ≤ (U k).a ∧ (U k).a ≤ 268435455) ∧ (U k).a ≤ el k ∧ 0 ≤ (U k).b ∧ (U k).b ≤ (U k).a ∧ 0 ≤ (U k).c) := Lib.hid fun k hk => by
    have h1 := Ty.use_each (h := eh) HX0.out (fun i hi => (bl i hi).1) hk
    have h2 := (bl k hk).2
    rw [hU] at h1
    omega
  have C2 : Hid (∀ W, t.In W W.heap.size → Calls Try.prog 18 #[.agg t.cells] W (IntPost t.cap W)) := Lib.hid fun W hW => capacity_any t W hW
  clear hae hU bh bl
  go_wp2_with ((refine wpList_load_has ?_ 27 (.tmp 5) ?_ T ?_ _ _ _ HS.out.box Try.underlying27 ?_ HTI.out ?_; rfl; rfl; rfl; rfl))
  refine (C1.out _ HS.out.inn HN1.out HN2.out).mono ?_
  rintro e x1 ⟨g, c, rfl, htr, hb⟩
  have HT1 := Lib.hid htr
  replace HN2 := Lib.hid ((HN2.out.below hb).mono hb.size)
  replace HS := Lib.hid (HS.out.next hb)
  clear htr hb C1 HN1
  try simp only
  have hmm : ((m : Int) != m) = false := by simp
  go_wp2_with fail
  clear hmm
  go_loopw [10, 11, 12, 40] (fun s _ _ i wr => ∃ k : Nat, k ≤ m ∧ i = .int .i64 k ∧ s = .int .i64 (Ex.psum (fun i => (U i).a) k) ∧ Hid (RnSt w T t wr) ∧ Hid (Trips wr wr.heap.size (some ⟨g, 0, none⟩) m U) ∧ Hid (Nums wr wr.heap.size (some ⟨gl, 0, none⟩) m el)) (fun _ _ _ i _ => m - (intOf i).toNat)
  case atStart => exact ⟨0, Nat.zero_le _, rfl, rfl, HS, HT1, HN2⟩
  case round =>
    clear HS HT1 HN2
    obtain ⟨k, hk, rfl, rfl, HS, HT1, HN2⟩ := hrel
    obtain ⟨sa0, sa1⟩ := HSA.out k hk
    have HA1 : Hid (Ex.psum (fun i => (U i).a) (k + 1) = Ex.psum (fun i => (U i).a) k + (U k).a) := Lib.hid rfl
    by_cases hlt : k < m
    · have ha2 := HSA.out (k + 1) hlt
      rw [HA1.out] at ha2
      obtain ⟨sa2, sa3⟩ := ha2
      have hg := HT1.out.get hlt
      obtain ⟨b, o, hA, hbl, q0, q1, q2⟩ := hg
      injection hA with hA
      injection hA with hA1 hA2 _
      subst hA1 hA2
      rw [show (0 : Nat) + k * 3 = k * 3 by omega] at q0 q1 q2
      have hg2 := HN2.out.get hlt
      obtain ⟨b2, o2, hB, hbl2, q3⟩ := hg2
      injection hB with hB
      injection hB with hB1 hB2 _
      subst hB1 hB2
      rw [show (0 : Nat) + k = k by omega] at q3
      have hue := HUE.out k hlt
      obtain ⟨sa, hsa⟩ : ∃ s, Ex.psum (fun i => (U i).a) k = s := ⟨_, rfl⟩
      rw [hsa] at sa0 sa1 sa2 sa3 HA1 ⊢
      obtain ⟨ua, hua⟩ : ∃ s, (U k).a = s := ⟨_, rfl⟩
      obtain ⟨ub, hub⟩ : ∃ s, (U k).b = s := ⟨_, rfl⟩
      obtain ⟨uc, huc⟩ : ∃ s, (U k).c = s := ⟨_, rfl⟩
      obtain ⟨lk, hlk⟩ : ∃ s, el k = s := ⟨_, rfl⟩
      rw [hua] at q0 sa2 sa3 HA1 hue
      rw [hub] at q1 hue
      rw [huc] at q2 hue
      rw [hlk] at q3 hue
      obtain ⟨⟨u0, u1⟩, u2, u3, u4, u5⟩ := hue
      have hk0 : (0 : Int) ≤ k := by omega
      have hk1 : (k : Int) < m := by omega
      have d0 : decide (ua < 0) = false := by rw [decide_eq_false_iff_not]; omega
      have d1 : decide (lk < ua) = false := by rw [decide_eq_false_iff_not]; omega
      have d2 : decide (ub < 0) = false := by rw [decide_eq_false_iff_not]; omega
      have d3 : decide (ua < ub) = false := by rw [decide_eq_false_iff_not]; omega
      have d4 : decide (uc < 0) = false := by rw [decide_eq_false_iff_not]; omega
      clear hsa hua hub huc hlk
      have HX : Hid (Has (wr.alloc (.cells #[.int .i64 ua, .int .i64 ub, .int .i64 uc] 47)) wr.heap.size #[.int .i64 ua, .int .i64 ub, .int .i64 uc] 47) := Lib.hid (Has.new _ _ _)
      have hbA : Below wr.heap.size wr (wr.alloc (.cells #[.int .i64 ua, .int .i64 ub, .int .i64 uc] 47)) := (Below.refl _ _).alloc (Nat.le_refl _) _
      have HSN := Lib.hid (HS.out.next hbA)
      have HTN := Lib.hid ((HT1.out.below hbA).mono hbA.size)
      have HNN := Lib.hid ((HN2.out.below hbA).mono hbA.size)
      have q4 := hbA.cell (p := ⟨gl, k, none⟩) hbl2
      rw [q3] at q4
      clear hbA HS HT1 HN2
      go_upto_region 10 with (fail)
      obtain ⟨x5, hx5⟩ : ∃ W, wr.alloc (.cells #[.int .i64 ua, .int .i64 ub, .int .i64 uc] 47) = W := ⟨_, rfl⟩
      obtain ⟨G, hG⟩ : ∃ G, wr.heap.size = G := ⟨_, rfl⟩
      rw [hx5] at HX HSN HTN HNN q4 ⊢
      rw [hG] at HX ⊢
      clear q0 q1 q2 q3 hbl hbl2 hx5 hG
      obtain ⟨z0, z1, z2⟩ := HX.out.rules
      go_wp2
      go_quiet (fail)
      go_wp2_with fail
      go_roundw
      case rel => exact ⟨k + 1, by omega, by go_num, by rw [HA1.out], Lib.hid (HSN.out.drewN _), HTN, HNN⟩
      case measure => simp [intOf]; omega
    · have hkn : m = k := by omega
      have hd : decide ((k : Int) < m) = false := by rw [decide_eq_false_iff_not]; omega
      subst hkn
      clear HA1
      obtain ⟨sa, hsa⟩ : ∃ s, Ex.psum (fun i => (U i).a) m = s := ⟨_, rfl⟩
      rw [hsa] at HL sa0 sa1 ⊢
      obtain ⟨cp, hcp⟩ : ∃ s, t.cap = s := ⟨_, rfl⟩
      rw [hcp] at C2 HL
      clear hsa hcp HSA HUE
      go_wp2_with ((refine wpList_load_has ?_ 27 (.tmp 5) ?_ T ?_ _ _ _ HS.out.box Try.underlying27 ?_ HTI.out ?_; rfl; rfl; rfl; rfl))
      refine (C2.out _ HS.out.inn).mono ?_
      rintro e x2 ⟨rfl, hb⟩
      replace HS := Lib.hid (HS.out.next hb)
      clear hb C2
      try simp only
      have x14 : x2.cell? ⟨T, 14, none⟩ = some (.int .i64 t.agg) := HS.out.box.cell 14
      have HBE := Lib.hid HS.out.below
      obtain ⟨ag, hag⟩ : ∃ b, t.agg = b := ⟨_, rfl⟩
      rw [hag] at x14 HL
      clear hag HS HT1 HN2 HX0
      obtain ⟨hl1, hl2⟩ := HL.out
      clear HL
      by_cases ha : ag = 0
      all_goals by_cases hc : cp = 0
      · subst ha hc
        clear hl1 hl2
        go_wp2_with (first | (go_at_call 10; refine (awake28_any _).mono ?_; rintro e w9 ⟨rfl, hb9⟩))
        go_ret
        exact ⟨rfl, HBE.out.trans (hb9.mono HBE.out.size)⟩
      · subst ha
        have e2 : decide (sa ≤ cp) = true := by rw [decide_eq_true_iff]; omega
        have e3 : (cp == 0) = false := by rw [beq_eq_false_iff_ne]; exact hc
        clear hl1 hl2
        go_wp2_with (first | (go_at_call 10; refine (awake28_any _).mono ?_; rintro e w9 ⟨rfl, hb9⟩))
        go_ret
        exact ⟨rfl, HBE.out.trans (hb9.mono HBE.out.size)⟩
      · subst hc
        have e2 : decide (sa ≤ ag) = true := by rw [decide_eq_true_iff]; omega
        have e3 : (ag == 0) = false := by rw [beq_eq_false_iff_ne]; exact ha
        clear hl1 hl2
        go_wp2_with (first | (go_at_call 10; refine (awake28_any _).mono ?_; rintro e w9 ⟨rfl, hb9⟩))
        go_ret
        exact ⟨rfl, HBE.out.trans (hb9.mono HBE.out.size)⟩
      · have e1 : decide (sa ≤ ag) = true := by rw [decide_eq_true_iff]; omega
        have e2 : decide (sa ≤ cp) = true := by rw [decide_eq_true_iff]; omega
        have e3 : (cp == 0) = false := by rw [beq_eq_false_iff_ne]; exact hc
        have e4 : (ag == 0) = false := by rw [beq_eq_false_iff_ne]; exact ha
        clear hl1 hl2
        go_wp2_with (first | (go_at_call 10; refine (awake28_any _).mono ?_; rintro e w9 ⟨rfl, hb9⟩))
        go_ret
        exact ⟨rfl, HBE.out.trans (hb9.mono HBE.out.size)⟩

set_option maxRecDepth 100000 in
theorem lifted (os : Os) (started : os.Started) (H : Type) (enc : TypeId × Value → H) :
    ReturnsInHanded {} Try.checked os 5 .any (Rows.reinstateCapacitySpec.pre6 enc Try.prog Try.f5 Rows.reinstateCapacityRow.domain false) (Rows.reinstateCapacitySpec.post enc Try.prog Try.f5 false true false false) := by
  refine returnsInHanded_of_change (C := Try.checked) own started (by kernel_rfl) Try.func5
    (ChangeSpec.witness6 (enc := enc) (C := Try.checked) false ⟨#[], #[.slice none 0 0, .slice none 0 0], []⟩ 8 (by kernel_rfl) (by kernel_rfl) (by kernel_rfl) (by kernel_rfl)) ?_
  intro W base args ds gs before hval0 hW hcnd _
  have hval : ∀ (j : Nat) t v, Try.f5.params[j]? = some t → args[j]? = some v → Value.okWide Try.prog W .any base t v := hval0
  have hW' := hW
  obtain ⟨p, q, hA0, hV, rfl, hfz, hnd⟩ := hW
  have hA : DataW.TrodAll enc Try.prog W 0 (fun _ => true) true Try.f5.params.toList args.toList ds p := hA0
  rw [Try.params5] at hA hval
  obtain ⟨v0, vs0, d0, ds0, p0, q0, hargs, rfl, rfl, h0, r0⟩ := trodAll_cons hA
  obtain ⟨v1, vs1, d1, ds1, p1, q1, rfl, rfl, rfl, h1, r1⟩ := trodAll_cons r0
  obtain ⟨rfl, rfl, rfl⟩ := trodAll_nil r1
  obtain rfl : args = #[v0, v1] := by cases args; simp_all
  obtain ⟨rfl, rfl⟩ := trodVars_none hV
  have k0 := h0
  have lt0 : ∀ x ∈ p0, x.block < W.heap.size := by obtain ⟨m, hm⟩ := k0; exact DataW.trod_lt m _ _ _ hm
  obtain ⟨a0, len0, cap0, rfl⟩ := okWide_slice Try.underlying24 (hval 0 24 v0 rfl rfl)
  have r100 : Rd24 W [.slice a0 len0 cap0] := by obtain ⟨fuel, hf⟩ := h0; exact rd24 hf
  have k1 := h1
  have lt1 : ∀ x ∈ p1, x.block < W.heap.size := by obtain ⟨m, hm⟩ := k1; exact DataW.trod_lt m _ _ _ hm
  obtain ⟨a1, len1, cap1, rfl⟩ := okWide_slice Try.underlying24 (hval 1 24 v1 rfl rfl)
  have r101 : Rd24 W [.slice a1 len1 cap1] := by obtain ⟨fuel, hf⟩ := h1; exact rd24 hf
  clear hA0 hval0
  refine (walk _ _ W r100 r101).mono fun e W' ⟨he, bel⟩ => ?_
  subst he
  exact ⟨_, rfl, _, _, _, [], _, [], hW', trodAll_mk1 (shut_bool Try.underlying4 _), (trodAll_cons_mk (Below.trod laidOut (by kernel_rfl) (of_decide_eq_true (by kernel_rfl)) k0 bel lt0) (trodAll_cons_mk (Below.trod laidOut (by kernel_rfl) (of_decide_eq_true (by kernel_rfl)) k1 bel lt1) trodAll_mk0)), rfl, bel.frame _, fun h => by cases h⟩

theorem over : Rows.reinstateCapacityRow.holds Try.pinned (OpenSpec.ofChange Rows.reinstateCapacitySpec) :=
  OpenClaim.holds_of_wide 5 Try.f5 rfl rfl rfl rfl rfl rfl rfl ⟨rfl, rfl, rfl, rfl, rfl⟩ rfl rfl rfl rfl rfl (by kernel_rfl) Try.func5 (by kernel_rfl)
    (of_decide_eq_true (by kernel_rfl)) (by unfold Func.isWrapper; first | (rw [if_pos (by decide +kernel)]; kernel_rfl) | (rw [if_neg (by decide +kernel)]; exact ⟨rfl, rfl⟩))
    (fun os started H enc _ => lifted os started H enc)

/-- the statement -/
theorem proved : Rows.ReinstateCapacitySaid := over
#print axioms proved
end Go.Proofs.Ytlmgfcgakdanaaa.reinstateCapacity
