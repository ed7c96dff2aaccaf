/- The law ReinstateOnce: what is used of the limits that can be reinstated is reinstated, once. No condition. -/
import Derived.Test.YtlmgfcgakdanaaaRows
import Derived.Test.YtlmgfcgakdanaaaRead
import Derived.Test.YtlmgfcgakdanaaaLwP
import Derived.Test.YtlmgfcgakdanaaaArgs
import Derived.WalkKit
import Derived.ProofKit
import Derived.OpenShut
import Derived.ShutString
import Derived.ChangeOld
import Derived.Below
namespace Go.Proofs.Ytlmgfcgakdanaaa.reinstateOnce
open Go.ChangeShapes Go.WideShapes Go.ChangeAt Go.RowKit
set_option linter.unusedVariables false

theorem own : ownKnob Try.prog.godebug = none := by kernel_rfl
theorem laidOut : laidOutB Try.prog = true := by kernel_rfl



set_option maxHeartbeats 4000000 in
set_option maxRecDepth 100000 in
theorem walk (v0 : Value) (v1 : Value) (w : World) (h0 : Rd24 w [v0]) (h1 : Rd24 w [v1]) :
    Calls Try.prog 7 #[v0, v1] w fun e w' => e = .returned (.bool true) ∧ Below w.heap.size w w' := by
  obtain ⟨Ad, nd, cd, fd, rfl, hnd, _, _, hd, _⟩ := rd_ints h0
  obtain ⟨Ao, no, co, fo, rfl, hno, _, _, ho, _⟩ := rd_ints h1
  have HDD := Lib.hid hd
  have HOO := Lib.hid ho
  have HTI := Lib.hid ty_info
  clear h0 h1 hd ho
  go_enter Try.func7, Try.ntmps7
  go_wp2_with fail
  refine (m2new_any Ad nd cd fd w hnd HDD.out).mono ?_
  rintro e w1 ⟨rfl, hb, hdk⟩
  have HB := Lib.hid hb
  have HD := Lib.hid hdk
  clear hb hdk HDD
  go_wp2_with fail
  refine (dexcess_any _ _ HD.out).mono ?_
  rintro e w2 ⟨t, rfl, hx, hin, hov, hk2, hd2'⟩
  have HX0 := Lib.hid hx
  have HIN := Lib.hid hin
  replace HB : Hid (Below w.heap.size w w2) := Lib.hid (HB.out.trans (hk2.below (Nat.le_refl _) HB.out.size))
  clear hx hin hov hk2 hd2' HD
  go_upto_region 2 with ((refine wpList_store_has ?_ 27 (.tmp 5) (.tmp 16) ?_ w2.heap.size ?_ t.cells ?_ _ _ (Has.new w2 _ _) HTI.out ?_ ?_ ?_; rfl; rfl; rfl; rfl; rfl; rfl; intro w3 hh3 hl3))
  try simp only [Act.put]
  have hb3 : Below w2.heap.size w2 w3 := ((Below.refl _ _).alloc (Nat.le_refl _) _).trans (hl3.below (fun k hk => by omega) (by simp))
  have HS : Hid (RnSt w w2.heap.size t w3) := Lib.hid ⟨hh3, HIN.out.below hb3, HB.out.trans (hb3.mono HB.out.size), HB.out.size⟩
  obtain ⟨T, hT⟩ : ∃ T, w2.heap.size = T := ⟨_, rfl⟩
  rw [hT] at HS ⊢
  clear hT hb3 hh3 hl3 HB HIN
  go_wp2_with fail
  refine (events28_any Ao no co fo w3 hno (HS.out.nums HOO.out)).mono ?_
  rintro e w4 ⟨gh, gl, m, eh, el, rfl, hm12, hn1, hn2, bh, bl, hb⟩
  replace HS := Lib.hid (HS.out.next hb)
  have HN1 := Lib.hid hn1
  have HN2 := Lib.hid hn2
  clear hb hn1 hn2 HOO
  try simp only
  have hae : t.aerr m eh m el = 0 := Ty.aerr_small HX0.out hm12 bh bl
  obtain ⟨U, hU⟩ : ∃ U, t.uses eh el = U := ⟨_, rfl⟩
  have C1 : Hid (∀ W, t.In W W.heap.size → Nums W W.heap.size (some ⟨gh, 0, none⟩) m eh → Nums W W.heap.size (some ⟨gl, 0, none⟩) m el → Calls Try.prog 21 #[.agg t.cells, .slice (some ⟨gh, 0, none⟩) m m, .slice (some ⟨gl, 0, none⟩) m m] W (FinePost m U W)) := Lib.hid fun W a b c => by
    rw [← hU]; exact (reapply_any t _ m m eh _ m m el W a (by omega) (by omega) b c).mono fun _ _ h => h.good hae
  have HSA : Hid (∀ k : Nat, k ≤ m → 0 ≤ Ex.psum (fun i => (U i).a) k ∧ Ex.psum (fun i => (U i).a) k ≤ 17592186044416) := Lib.hid fun k _ => by
    rw [← hU, Ty.sum_a HX0.out]; exact Ty.att_bound k
  have HSC : Hid (∀ k : Nat, k ≤ m → 0 ≤ Ex.psum (fun i => (U i).b) k ∧ Ex.psum (fun i => (U i).b) k ≤ 17592186044416) := Lib.hid fun k hk => by
    rw [← hU, Ty.sum_b HX0.out]
    have h1 := Ty.att_bound (t := t) (l := el) k
    have h2 := Ty.once_bound HX0.out
    omega
  have HL : Hid (Ex.psum (fun i => (U i).b) m = min (Ex.psum (fun i => (U i).a) m) (t.nre * t.lim)) := Lib.hid (by
    rw [← hU, Ty.sum_a HX0.out, Ty.sum_b HX0.out])
  clear hae hU bh bl
  go_wp2_with ((refine wpList_load_has ?_ 27 (.tmp 5) ?_ T ?_ _ _ _ HS.out.box Try.underlying27 ?_ HTI.out ?_; rfl; rfl; rfl; rfl))
  refine (C1.out _ HS.out.inn HN1.out HN2.out).mono ?_
  rintro e x1 ⟨g, c, rfl, htr, hb⟩
  have HT1 := Lib.hid htr
  replace HS := Lib.hid (HS.out.next hb)
  clear htr hb C1 HN1 HN2
  try simp only
  go_wp2_with fail
  go_loopw [10, 11, 13, 31] (fun s p _ i wr => ∃ k : Nat, k ≤ m ∧ i = .int .i64 k ∧ s = .int .i64 (Ex.psum (fun i => (U i).a) k) ∧ p = .int .i64 (Ex.psum (fun i => (U i).b) k) ∧ Hid (RnSt w T t wr) ∧ Hid (Trips wr wr.heap.size (some ⟨g, 0, none⟩) m U)) (fun _ _ _ i _ => m - (intOf i).toNat)
  case atStart => exact ⟨0, Nat.zero_le _, rfl, rfl, rfl, HS, HT1⟩
  case round =>
    clear HS HT1
    obtain ⟨k, hk, rfl, rfl, rfl, HS, HT1⟩ := hrel
    obtain ⟨sa0, sa1⟩ := HSA.out k hk
    obtain ⟨sc0, sc1⟩ := HSC.out k hk
    have HA1 : Hid (Ex.psum (fun i => (U i).a) (k + 1) = Ex.psum (fun i => (U i).a) k + (U k).a) := Lib.hid rfl
    have HC1 : Hid (Ex.psum (fun i => (U i).b) (k + 1) = Ex.psum (fun i => (U i).b) k + (U k).b) := Lib.hid rfl
    by_cases hlt : k < m
    · have ha2 := HSA.out (k + 1) hlt
      have hc2 := HSC.out (k + 1) hlt
      rw [HA1.out] at ha2
      rw [HC1.out] at hc2
      obtain ⟨sa2, sa3⟩ := ha2
      obtain ⟨sc2, sc3⟩ := hc2
      have hg := HT1.out.get hlt
      obtain ⟨b, o, hA, hbl, q0, q1, q2⟩ := hg
      injection hA with hA
      injection hA with hA1 hA2 _
      subst hA1 hA2
      rw [show (0 : Nat) + k * 3 = k * 3 by omega] at q0 q1 q2
      obtain ⟨sa, hsa⟩ : ∃ s, Ex.psum (fun i => (U i).a) k = s := ⟨_, rfl⟩
      obtain ⟨sc, hsc⟩ : ∃ s, Ex.psum (fun i => (U i).b) k = s := ⟨_, rfl⟩
      rw [hsa] at sa0 sa1 sa2 sa3 HA1 ⊢
      rw [hsc] at sc0 sc1 sc2 sc3 HC1 ⊢
      obtain ⟨ua, hua⟩ : ∃ s, (U k).a = s := ⟨_, rfl⟩
      obtain ⟨ub, hub⟩ : ∃ s, (U k).b = s := ⟨_, rfl⟩
      obtain ⟨uc, huc⟩ : ∃ s, (U k).c = s := ⟨_, rfl⟩
      rw [hua] at q0 sa2 sa3 HA1
      rw [huc] at q2
      rw [hub] at q1 sc2 sc3 HC1
      have hk0 : (0 : Int) ≤ k := by omega
      have hk1 : (k : Int) < m := by omega
      clear hsa hsc hua hub huc
      go_wp2_with fail
      go_roundw
      case rel => exact ⟨k + 1, by omega, by go_num, by rw [HA1.out], by rw [HC1.out], Lib.hid (HS.out.next ((Below.refl _ _).alloc (Nat.le_refl _) _)), Lib.hid ((HT1.out.below ((Below.refl _ _).alloc (Nat.le_refl _) _)).mono (by simp))⟩
      case measure => simp [intOf]; omega
    · have hkn : m = k := by omega
      have hd : decide ((k : Int) < m) = false := by rw [decide_eq_false_iff_not]; omega
      subst hkn
      clear HA1 HC1
      obtain ⟨sa, hsa⟩ : ∃ s, Ex.psum (fun i => (U i).a) m = s := ⟨_, rfl⟩
      obtain ⟨sc, hsc⟩ : ∃ s, Ex.psum (fun i => (U i).b) m = s := ⟨_, rfl⟩
      rw [hsa] at HL sa0 sa1 ⊢
      rw [hsc] at HL sc0 sc1 ⊢
      have hob := Ty.once_bound HX0.out
      have x16 : wr.cell? ⟨T, 16, none⟩ = some (.slice t.Are t.nre t.cre) := HS.out.box.cell 16
      have x11 : wr.cell? ⟨T, 11, none⟩ = some (.int .i64 t.lim) := HS.out.box.cell 11
      have HBE := Lib.hid HS.out.below
      obtain ⟨L, hL⟩ : ∃ L, t.lim = L := ⟨_, rfl⟩
      rw [hL] at x11 hob HL
      obtain ⟨n, hn⟩ : ∃ n, t.nre = n := ⟨_, rfl⟩
      rw [hn] at x16 hob HL
      obtain ⟨ob0, ob1⟩ := hob
      have heq := HL.out
      clear hsa hsc HSA HSC HS HT1 HX0 hL hn HL
      subst heq
      go_wp2_with (first | (go_at_call 10; refine (awake28_any _).mono ?_; rintro e w9 ⟨rfl, hb9⟩))
      go_ret
      exact ⟨rfl, HBE.out.trans (hb9.mono HBE.out.size)⟩

set_option maxRecDepth 100000 in
theorem lifted (os : Os) (started : os.Started) (H : Type) (enc : TypeId × Value → H) :
    ReturnsInHanded {} Try.checked os 7 .any (Rows.reinstateOnceSpec.pre6 enc Try.prog Try.f7 Rows.reinstateOnceRow.domain false) (Rows.reinstateOnceSpec.post enc Try.prog Try.f7 false true false false) := by
  refine returnsInHanded_of_change (C := Try.checked) own started (by kernel_rfl) Try.func7
    (ChangeSpec.witness6 (enc := enc) (C := Try.checked) false ⟨#[], #[.slice none 0 0, .slice none 0 0], []⟩ 8 (by kernel_rfl) (by kernel_rfl) (by kernel_rfl) (by kernel_rfl)) ?_
  intro W base args ds gs before hval0 hW hcnd _
  have hval : ∀ (j : Nat) t v, Try.f7.params[j]? = some t → args[j]? = some v → Value.okWide Try.prog W .any base t v := hval0
  have hW' := hW
  obtain ⟨p, q, hA0, hV, rfl, hfz, hnd⟩ := hW
  have hA : DataW.TrodAll enc Try.prog W 0 (fun _ => true) true Try.f7.params.toList args.toList ds p := hA0
  rw [Try.params7] at hA hval
  obtain ⟨v0, vs0, d0, ds0, p0, q0, hargs, rfl, rfl, h0, r0⟩ := trodAll_cons hA
  obtain ⟨v1, vs1, d1, ds1, p1, q1, rfl, rfl, rfl, h1, r1⟩ := trodAll_cons r0
  obtain ⟨rfl, rfl, rfl⟩ := trodAll_nil r1
  obtain rfl : args = #[v0, v1] := by cases args; simp_all
  obtain ⟨rfl, rfl⟩ := trodVars_none hV
  have k0 := h0
  have lt0 : ∀ x ∈ p0, x.block < W.heap.size := by obtain ⟨m, hm⟩ := k0; exact DataW.trod_lt m _ _ _ hm
  obtain ⟨a0, len0, cap0, rfl⟩ := okWide_slice Try.underlying24 (hval 0 24 v0 rfl rfl)
  have r100 : Rd24 W [.slice a0 len0 cap0] := by obtain ⟨fuel, hf⟩ := h0; exact rd24 hf
  have k1 := h1
  have lt1 : ∀ x ∈ p1, x.block < W.heap.size := by obtain ⟨m, hm⟩ := k1; exact DataW.trod_lt m _ _ _ hm
  obtain ⟨a1, len1, cap1, rfl⟩ := okWide_slice Try.underlying24 (hval 1 24 v1 rfl rfl)
  have r101 : Rd24 W [.slice a1 len1 cap1] := by obtain ⟨fuel, hf⟩ := h1; exact rd24 hf
  clear hA0 hval0
  refine (walk _ _ W r100 r101).mono fun e W' ⟨he, bel⟩ => ?_
  subst he
  exact ⟨_, rfl, _, _, _, [], _, [], hW', trodAll_mk1 (shut_bool Try.underlying4 _), (trodAll_cons_mk (Below.trod laidOut (by kernel_rfl) (of_decide_eq_true (by kernel_rfl)) k0 bel lt0) (trodAll_cons_mk (Below.trod laidOut (by kernel_rfl) (of_decide_eq_true (by kernel_rfl)) k1 bel lt1) trodAll_mk0)), rfl, bel.frame _, fun h => by cases h⟩

theorem over : Rows.reinstateOnceRow.holds Try.pinned (OpenSpec.ofChange Rows.reinstateOnceSpec) :=
  OpenClaim.holds_of_wide 7 Try.f7 rfl rfl rfl rfl rfl rfl rfl ⟨rfl, rfl, rfl, rfl, rfl⟩ rfl rfl rfl rfl rfl (by kernel_rfl) Try.func7 (by kernel_rfl)
    (of_decide_eq_true (by kernel_rfl)) (by unfold Func.isWrapper; first | (rw [if_pos (by decide +kernel)]; kernel_rfl) | (rw [if_neg (by decide +kernel)]; exact ⟨rfl, rfl⟩))
    (fun os started H enc _ => lifted os started H enc)

/-- the statement -/
theorem proved : Rows.ReinstateOnceSaid := over
#print axioms proved
end Go.Proofs.Ytlmgfcgakdanaaa.reinstateOnce
