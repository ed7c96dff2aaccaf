/- The law ReinstateRises: the price of more is not less, and nothing costs nothing. No condition. -/
import Derived.Test.YtlmgfcgakdanaaaRows
import Derived.Test.YtlmgfcgakdanaaaRead
import Derived.Test.YtlmgfcgakdanaaaEv28
import Derived.Test.YtlmgfcgakdanaaaArgs
import Derived.WalkKit
import Derived.ProofKit
import Derived.OpenShut
import Derived.ShutString
import Derived.ChangeOld
import Derived.Below
namespace Go.Proofs.Ytlmgfcgakdanaaa.reinstateRises
open Go.ChangeShapes Go.WideShapes Go.ChangeAt Go.RowKit
set_option linter.unusedVariables false

theorem own : ownKnob Try.prog.godebug = none := by kernel_rfl
theorem laidOut : laidOutB Try.prog = true := by kernel_rfl

theorem wf_u32 {n : Int} (h : (Lit.int .u32 n).wf = true) : 0 ≤ n ∧ n ≤ 4294967295 := by
  have h1 : IntKind.u32.min = 0 := by decide
  have h2 : IntKind.u32.max = 4294967295 := by decide
  simp only [Lit.wf, h1, h2, Bool.and_eq_true, decide_eq_true_eq] at h
  exact h
theorem rd_u32 {w : World} {v : Value} (h : Rd51 w [v]) : ∃ n : Int, v = .int .u32 n ∧ 0 ≤ n ∧ n ≤ 4294967295 := by
  obtain ⟨n, h1, h2⟩ := h
  injection h1 with h1
  exact ⟨n, h1, wf_u32 h2⟩

set_option maxHeartbeats 4000000 in
set_option maxRecDepth 100000 in
theorem walk (v0 : Value) (v1 : Value) (v2 : Value) (w : World) (h0 : Rd24 w [v0]) (h1 : Rd51 w [v1]) (h2 : Rd51 w [v2]) :
    Calls Try.prog 9 #[v0, v1, v2] w fun e w' => e = .returned (.bool true) ∧ Below w.heap.size w w' := by
  obtain ⟨Ad, nd, cd, fd, rfl, hnd, _, _, hd, _⟩ := rd_ints h0
  obtain ⟨us, rfl, us0, us1⟩ := rd_u32 h1
  obtain ⟨mo, rfl, mo0, mo1⟩ := rd_u32 h2
  have HDD := Lib.hid hd
  have HTI := Lib.hid ty_info
  clear h0 h1 h2 hd
  go_enter Try.func9, Try.ntmps9
  go_wp2_with fail
  refine (m2new_any Ad nd cd fd w hnd HDD.out).mono ?_
  rintro e w1 ⟨rfl, hb, hdk⟩
  have HB := Lib.hid hb
  have HD := Lib.hid hdk
  clear hb hdk HDD
  go_wp2_with fail
  refine (dexcess_any _ _ HD.out).mono ?_
  rintro e w2 ⟨t, rfl, hx, hin, hov, hk2, hd2'⟩
  have HX0 := Lib.hid hx
  have HIN := Lib.hid hin
  replace HB : Hid (Below w.heap.size w w2) := Lib.hid (HB.out.trans (hk2.below (Nat.le_refl _) HB.out.size))
  clear hx hin hov hk2 hd2' HD
  go_upto_region 2 with ((refine wpList_store_has ?_ 27 (.tmp 7) (.tmp 21) ?_ w2.heap.size ?_ t.cells ?_ _ _ (Has.new w2 _ _) HTI.out ?_ ?_ ?_; rfl; rfl; rfl; rfl; rfl; rfl; intro w3 hh3 hl3))
  try simp only [Act.put]
  have hb3 : Below w2.heap.size w2 w3 := ((Below.refl _ _).alloc (Nat.le_refl _) _).trans (hl3.below (fun k hk => by omega) (by simp))
  have HS : Hid (RnSt w w2.heap.size t w3) := Lib.hid ⟨hh3, HIN.out.below hb3, HB.out.trans (hb3.mono HB.out.size), HB.out.size⟩
  obtain ⟨T, hT⟩ : ∃ T, w2.heap.size = T := ⟨_, rfl⟩
  rw [hT] at HS ⊢
  clear hT hb3 hh3 hl3 HB HIN
  have hfit := Ty.fit HX0.out
  have hle := Rn.price_mono hfit (show us ≤ us + mo by omega)
  have hfu := Rn.price_full hfit (us + mo)
  have hz := Rn.price_zero hfit
  have hfb := Rn.full_bound hfit
  have C1 : Hid (∀ W, t.In W W.heap.size → Calls Try.prog 16 #[.agg t.cells, .int .i64 us] W (PairPost (Rn.price t.prem t.lim t.fre t.nre us, 0) W)) := Lib.hid fun W hW => by rw [← Ty.pr_fine HX0.out us0 (by omega)]; exact price_any t us W hW
  have C2 : Hid (∀ W, t.In W W.heap.size → Calls Try.prog 16 #[.agg t.cells, .int .i64 (us + mo)] W (PairPost (Rn.price t.prem t.lim t.fre t.nre (us + mo), 0) W)) := Lib.hid fun W hW => by rw [← Ty.pr_fine HX0.out (by omega) (by omega)]; exact price_any t (us + mo) W hW
  have C3 : Hid (∀ W, t.In W W.heap.size → Calls Try.prog 16 #[.agg t.cells, .int .i64 0] W (PairPost (0, 0) W)) := Lib.hid fun W hW => by
    have h3 := price_any t 0 W hW
    rw [Ty.pr_fine HX0.out (Int.le_refl 0) (by omega), hz] at h3
    exact h3
  obtain ⟨p, hp⟩ : ∃ p, Rn.price t.prem t.lim t.fre t.nre us = p := ⟨_, rfl⟩
  obtain ⟨q, hq⟩ : ∃ p, Rn.price t.prem t.lim t.fre t.nre (us + mo) = p := ⟨_, rfl⟩
  rw [hp] at C1 hle
  rw [hq] at C2 hle hfu
  have HFI := Lib.hid hfit
  have HFU := Lib.hid hfu
  have HFB := Lib.hid hfb
  have n8 := hfit.n8
  clear hfit hz hp hq hfu hfb
  go_wp2_with ((refine wpList_load_has ?_ 27 (.tmp 7) ?_ T ?_ _ _ _ HS.out.box Try.underlying27 ?_ HTI.out ?_; rfl; rfl; rfl; rfl))
  refine (C1.out _ HS.out.inn).mono ?_
  rintro e x1 ⟨rfl, hb⟩
  replace HS := Lib.hid (HS.out.next hb)
  clear hb C1
  try simp only
  go_wp2_with ((refine wpList_load_has ?_ 27 (.tmp 7) ?_ T ?_ _ _ _ HS.out.box Try.underlying27 ?_ HTI.out ?_; rfl; rfl; rfl; rfl))
  refine (C2.out _ HS.out.inn).mono ?_
  rintro e x2 ⟨rfl, hb⟩
  replace HS := Lib.hid (HS.out.next hb)
  clear hb C2
  try simp only
  go_wp2_with ((refine wpList_load_has ?_ 27 (.tmp 7) ?_ T ?_ _ _ _ HS.out.box Try.underlying27 ?_ HTI.out ?_; rfl; rfl; rfl; rfl))
  refine (C3.out _ HS.out.inn).mono ?_
  rintro e x3 ⟨rfl, hb⟩
  replace HS := Lib.hid (HS.out.next hb)
  clear hb C3
  try simp only
  have x16 : x3.cell? ⟨T, 16, none⟩ = some (.slice t.Are t.nre t.cre) := HS.out.box.cell 16
  obtain ⟨n, hn⟩ : ∃ n, t.nre = n := ⟨_, rfl⟩
  rw [hn] at x16 n8
  have HNN := Lib.hid hn
  clear hn
  go_wp2_with fail
  go_loopw [14, 16, 17, 18, 47] (fun s _ _ _ i wr => ∃ k : Nat, k ≤ n ∧ i = .int .i64 k ∧ s = .int .i64 (Ex.psum (fun j => Co.part t.prem (t.fre j)) k) ∧ Hid (RnSt w T t wr)) (fun _ _ _ _ i _ => n - (intOf i).toNat)
  case atStart => exact ⟨0, Nat.zero_le _, rfl, rfl, HS⟩
  case round =>
    clear HS x16
    obtain ⟨k, hk, rfl, rfl, HS⟩ := hrel
    have hsb := HFB.out k (by rw [HNN.out]; exact hk)
    obtain ⟨s, hs⟩ : ∃ s, Ex.psum (fun j => Co.part t.prem (t.fre j)) k = s := ⟨_, rfl⟩
    rw [hs] at hsb ⊢
    obtain ⟨s0, s1⟩ := hsb
    by_cases hlt : k < n
    · obtain ⟨b, o, hA, hbl, hc0⟩ := HS.out.inn.re.get (j := k) (by rw [HNN.out]; exact hlt)
      have hm := Rn.full_md HFI.out (j := k) (by rw [HNN.out]; exact hlt)
      have hpp := HFI.out.p1
      obtain ⟨r, hr⟩ : ∃ r, t.fre k = r := ⟨_, rfl⟩
      obtain ⟨P, hP⟩ : ∃ r, t.prem = r := ⟨_, rfl⟩
      rw [hr] at hc0 hm
      rw [hP] at hm hpp
      obtain ⟨f, hf⟩ : ∃ f, Co.part P r = f := ⟨_, rfl⟩
      rw [hf] at hm
      have HP1 : Hid (Ex.psum (fun j => Co.part t.prem (t.fre j)) (k + 1) = s + f) := Lib.hid (by rw [← hs, ← hf, ← hP, ← hr]; rfl)
      obtain ⟨hm1, f0, f1⟩ := hm
      have CS : Hid (∀ W, Calls Try.prog 25 #[.int .i64 P, .int .i64 r, .int .i64 4] W fun e w' => e = .returned (.tuple #[.int .i64 f, .int .i64 0]) ∧ ∃ n, w' = W.drewN n) := Lib.hid fun W => by
        have := rshare_any P r 4 W
        rw [hm1] at this
        exact this
      have x15 : wr.cell? ⟨T, 15, none⟩ = some (.int .i64 P) := by rw [← hP]; exact HS.out.box.cell 15
      have hk0 : (0 : Int) ≤ k := by omega
      have hk1 : (k : Int) < n := by omega
      rw [hA]
      clear hs hm1 hr hP hf hA
      go_wp2_with fail
      refine (CS.out _).mono ?_
      rintro e w' ⟨rfl, nq, rfl⟩
      go_wp2_with fail
      go_roundw
      case rel => exact ⟨k + 1, by omega, by go_num, by rw [HP1.out], Lib.hid (HS.out.drewN _)⟩
      case measure => simp [intOf]; omega
    · have hkn : n = k := by omega
      have hqs : q ≤ s := by rw [← hs, ← hkn, ← HNN.out]; exact HFU.out
      have hd : decide ((k : Int) < n) = false := by rw [decide_eq_false_iff_not]; omega
      have hl1 : decide (p ≤ q) = true := by rw [decide_eq_true_iff]; exact hle
      have hl2 : decide (q ≤ s) = true := by rw [decide_eq_true_iff]; exact hqs
      have HBE := Lib.hid HS.out.below
      clear hkn hs HS
      go_wp2_with fail
      refine (awake28_any _).mono ?_
      rintro e w9 ⟨rfl, hb9⟩
      go_wp2_with fail
      go_ret
      exact ⟨rfl, HBE.out.trans (hb9.mono HBE.out.size)⟩

set_option maxRecDepth 100000 in
theorem lifted (os : Os) (started : os.Started) (H : Type) (enc : TypeId × Value → H) :
    ReturnsInHanded {} Try.checked os 9 .any (Rows.reinstateRisesSpec.pre6 enc Try.prog Try.f9 Rows.reinstateRisesRow.domain false) (Rows.reinstateRisesSpec.post enc Try.prog Try.f9 false true false false) := by
  refine returnsInHanded_of_change (C := Try.checked) own started (by kernel_rfl) Try.func9
    (ChangeSpec.witness6 (enc := enc) (C := Try.checked) false ⟨#[], #[.slice none 0 0, .int .u32 0, .int .u32 0], []⟩ 8 (by kernel_rfl) (by kernel_rfl) (by kernel_rfl) (by kernel_rfl)) ?_
  intro W base args ds gs before hval0 hW hcnd _
  have hval : ∀ (j : Nat) t v, Try.f9.params[j]? = some t → args[j]? = some v → Value.okWide Try.prog W .any base t v := hval0
  have hW' := hW
  obtain ⟨p, q, hA0, hV, rfl, hfz, hnd⟩ := hW
  have hA : DataW.TrodAll enc Try.prog W 0 (fun _ => true) true Try.f9.params.toList args.toList ds p := hA0
  rw [Try.params9] at hA hval
  obtain ⟨v0, vs0, d0, ds0, p0, q0, hargs, rfl, rfl, h0, r0⟩ := trodAll_cons hA
  obtain ⟨v1, vs1, d1, ds1, p1, q1, rfl, rfl, rfl, h1, r1⟩ := trodAll_cons r0
  obtain ⟨v2, vs2, d2, ds2, p2, q2, rfl, rfl, rfl, h2, r2⟩ := trodAll_cons r1
  obtain ⟨rfl, rfl, rfl⟩ := trodAll_nil r2
  obtain rfl : args = #[v0, v1, v2] := by cases args; simp_all
  obtain ⟨rfl, rfl⟩ := trodVars_none hV
  have k0 := h0
  have lt0 : ∀ x ∈ p0, x.block < W.heap.size := by obtain ⟨m, hm⟩ := k0; exact DataW.trod_lt m _ _ _ hm
  obtain ⟨a0, len0, cap0, rfl⟩ := okWide_slice Try.underlying24 (hval 0 24 v0 rfl rfl)
  have r100 : Rd24 W [.slice a0 len0 cap0] := by obtain ⟨fuel, hf⟩ := h0; exact rd24 hf
  have k1 := h1
  have lt1 : ∀ x ∈ p1, x.block < W.heap.size := by obtain ⟨m, hm⟩ := k1; exact DataW.trod_lt m _ _ _ hm
  obtain ⟨a1, rfl⟩ := okWide_int Try.underlying51 (hval 1 51 v1 rfl rfl)
  have r101 : Rd51 W [.int .u32 a1] := by obtain ⟨fuel, hf⟩ := h1; exact rd51 hf
  have k2 := h2
  have lt2 : ∀ x ∈ p2, x.block < W.heap.size := by obtain ⟨m, hm⟩ := k2; exact DataW.trod_lt m _ _ _ hm
  obtain ⟨a2, rfl⟩ := okWide_int Try.underlying51 (hval 2 51 v2 rfl rfl)
  have r102 : Rd51 W [.int .u32 a2] := by obtain ⟨fuel, hf⟩ := h2; exact rd51 hf
  clear hA0 hval0
  refine (walk _ _ _ W r100 r101 r102).mono fun e W' ⟨he, bel⟩ => ?_
  subst he
  exact ⟨_, rfl, _, _, _, [], _, [], hW', trodAll_mk1 (shut_bool Try.underlying4 _), (trodAll_cons_mk (Below.trod laidOut (by kernel_rfl) (of_decide_eq_true (by kernel_rfl)) k0 bel lt0) (trodAll_cons_mk (Below.trod laidOut (by kernel_rfl) (of_decide_eq_true (by kernel_rfl)) k1 bel lt1) (trodAll_cons_mk (Below.trod laidOut (by kernel_rfl) (of_decide_eq_true (by kernel_rfl)) k2 bel lt2) trodAll_mk0))), rfl, bel.frame _, fun h => by cases h⟩

theorem over : Rows.reinstateRisesRow.holds Try.pinned (OpenSpec.ofChange Rows.reinstateRisesSpec) :=
  OpenClaim.holds_of_wide 9 Try.f9 rfl rfl rfl rfl rfl rfl rfl ⟨rfl, rfl, rfl, rfl, rfl⟩ rfl rfl rfl rfl rfl (by kernel_rfl) Try.func9 (by kernel_rfl)
    (of_decide_eq_true (by kernel_rfl)) (by unfold Func.isWrapper; first | (rw [if_pos (by decide +kernel)]; kernel_rfl) | (rw [if_neg (by decide +kernel)]; exact ⟨rfl, rfl⟩))
    (fun os started H enc _ => lifted os started H enc)

/-- the statement -/
theorem proved : Rows.ReinstateRisesSaid := over
#print axioms proved
end Go.Proofs.Ytlmgfcgakdanaaa.reinstateRises
