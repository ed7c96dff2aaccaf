/- The law ExcessSteady: a retention is not changed by an index that stays at its base, and is doubled by one that has doubled, for every input. No condition. -/
import Derived.Test.YtigoeaidlgofoaaRows
import Derived.Test.YtigoeaidlgofoaaRead
import Derived.Test.YtigoeaidlgofoaaAwake22
import Derived.Test.YtigoeaidlgofoaaPay22
import Derived.Test.YtigoeaidlgofoaaExSteady
import Derived.Test.YtigoeaidlgofoaaArgs
import Derived.WalkKit
import Derived.ProofKit
import Derived.OpenShut
import Derived.ShutString
import Derived.ChangeOld
import Derived.Below
namespace Go.Proofs.Ytigoeaidlgofoaa.excessSteady
open Go.ChangeShapes Go.WideShapes Go.ChangeAt Go.RowKit
set_option linter.unusedVariables false

theorem own : ownKnob Try.prog.godebug = none := by kernel_rfl
theorem laidOut : laidOutB Try.prog = true := by kernel_rfl

theorem pair_mem (ps : List (Int × Int)) (j : Nat) (h : j < ps.length) : (fstOf ps j, sndOf ps j) ∈ ps := by
  have e : ps.getD j (0, 0) = ps[j] := by simp [List.getD, List.getElem?_eq_getElem h]
  unfold fstOf sndOf
  rw [e]
  exact List.getElem_mem h

set_option maxHeartbeats 4000000 in
set_option maxRecDepth 100000 in
theorem walk (v0 : Value) (v1 : Value) (w : World) (h0 : Rd22 w [v0]) (h1 : Rd3 w [v1]) :
    Calls Try.prog 9 #[v0, v1] w fun e w' => e = .returned (.bool true) ∧ Below w.heap.size w w' := by
  obtain ⟨A, n, c, z, rfl, hn, _, _, hc, _⟩ := rd_ints h0
  obtain ⟨ba, rfl, _, _⟩ := rd_i64 h1
  have HC := Lib.hid hc
  clear h0 h1 hc
  obtain ⟨m0, m1⟩ := Am.within_bound ba 1000 (by omega)
  obtain ⟨mb, hmb⟩ : ∃ m, Am.within ba 1000 = m := ⟨_, rfl⟩
  rw [hmb] at m0 m1
  have CW : Hid (∀ W, Calls Try.prog 26 #[.int .i64 ba, .int .i64 1000] W fun e w' => e = .returned (.int .i64 mb) ∧ W = w') := Lib.hid fun W => by
    have := within_any ba 1000 W (by omega) (by omega)
    rw [hmb] at this
    exact this
  clear hmb
  go_enter Try.func9, Try.ntmps9
  go_wp2_with fail
  refine (deck_new A n c z w hn HC.out).mono ?_
  rintro e w1 ⟨rfl, hb, hd⟩
  have HB := Lib.hid hb
  have HD := Lib.hid hd
  clear hb hd HC
  go_wp2_with fail
  refine (payments_any _ _ HD.out).mono ?_
  rintro e w2 ⟨A2, c2, ps, rfl, hl, hA2, hp, hps, hk2, hd2⟩
  replace HB : Hid (Below w.heap.size w w2) := Lib.hid (HB.out.trans (hk2.below (by omega) HB.out.size))
  have HP := Lib.hid hp
  obtain ⟨m, hm⟩ : ∃ m, ps.length = m := ⟨_, rfl⟩
  have hpb : ∀ j, j < m → Ex.hourP (fstOf ps j) := fun j hj => by
    have := hps _ (pair_mem ps j (by omega))
    exact ⟨this.1, by have := this.2.1; simp only at this; omega⟩
  have hqb : ∀ j, j < m → 0 ≤ sndOf ps j ∧ sndOf ps j ≤ 1073741824 := fun j hj => by
    have := hps _ (pair_mem ps j (by omega))
    exact ⟨this.2.2.1, this.2.2.2⟩
  obtain ⟨p, hpe⟩ : ∃ p, fstOf ps = p := ⟨_, rfl⟩
  obtain ⟨q, hqe⟩ : ∃ q, sndOf ps = q := ⟨_, rfl⟩
  rw [hpe] at hpb
  rw [hqe] at hqb
  rw [hm, hpe, hqe] at HP
  rw [hm] at hl ⊢
  have HQB := Lib.hid hqb
  have HST := Lib.hid (Ex.steady1 (1 + mb) m p q (by omega) (by omega) hl hpb hqb)
  have HBD := Lib.hid (Ex.psum_bound q 1073741824 m hqb)
  clear hk2 hd2 hp hps hm hpe hqe hpb hqb HD hA2
  have hs := HB.out.size
  go_wp2_with ((go_at_call 26; refine (CW.out _).mono ?_; rintro e w' ⟨rfl, rfl⟩))
  refine (exstab_any (1 + mb) _ 1 1 (fun _ => 0) (fun _ => 1 + mb) _ m c2 p q _ (by omega) (by omega) (Pairs.of_has (Has.new w2 _ _) ?_) ((HP.out.alloc (Nat.le_refl _) _).mono (by simp))).mono ?_
  · intro j hj
    rcases (show j = 0 ∨ j = 1 by omega) with rfl | rfl <;> rfl
  rintro e w3 ⟨rfl, hb⟩
  have HP3 := Lib.hid ((HP.out.below (((Below.refl w2.heap.size w2).alloc (Nat.le_refl _) _).trans (hb.mono (by simp)))))
  have hs23 : w2.heap.size ≤ w3.heap.size := by have := hb.size; simp at this; omega
  replace HB : Hid (Below w.heap.size w w3) := Lib.hid ((HB.out.alloc hs _).trans (hb.mono (by simp; omega)))
  clear hb
  obtain ⟨⟨sf, se⟩, hsf⟩ : ∃ s, Ex.stab (1 + mb) 1 (fun _ => 0) (fun _ => 1 + mb) m p q = s := ⟨_, rfl⟩
  rw [hsf] at HST ⊢
  clear hsf
  have hs3 := HB.out.size
  go_wp2_with fail
  go_loop [10, 11] (fun s i => ∃ k : Nat, k ≤ m ∧ i = .int .i64 k ∧ s = .int .i64 (Ex.psum q k)) (fun _ i => m - (intOf i).toNat)
  case atStart => exact ⟨0, Nat.zero_le _, rfl, rfl⟩
  case round =>
    obtain ⟨k, hk, rfl, rfl⟩ := hrel
    have hpk := Ex.psum_bound q 1073741824 k fun j hj => HQB.out j (by omega)
    obtain ⟨P, hP⟩ : ∃ P, Ex.psum q k = P := ⟨_, rfl⟩
    rw [hP] at hpk ⊢
    have hP1 : 0 ≤ P ∧ P ≤ 6442450944 := by omega
    obtain ⟨hP2, hP3⟩ := hP1
    clear hpk
    by_cases hlt : k < m
    · obtain ⟨b, o, rfl, had, hc0, hc1⟩ := HP3.out.get hlt
      have hy := HQB.out k hlt
      obtain ⟨y, hye⟩ : ∃ y, q k = y := ⟨_, rfl⟩
      rw [hye] at hc1 hy
      have HN : Hid (Ex.psum q (k + 1) = P + y) := Lib.hid (by rw [Ex.psum, hP, hye])
      obtain ⟨hy0, hy1⟩ := hy
      clear hP hye
      go_wp2_with fail
      go_round
      case rel => exact ⟨k + 1, by omega, by go_num, by rw [HN.out]⟩
      case measure => simp [intOf]; omega
    · have hkm : k = m := by omega
      subst hkm
      have hst := HST.out
      rw [hP] at hst
      by_cases hz : P = 0
      · rw [if_pos hz] at hst
        injection hst with h1 h2
        subst h1 h2 hz
        clear hP
        go_wp2_with (first | (go_at_call 16; refine (awake22_any _).mono ?_; rintro e w9 ⟨rfl, hb9⟩))
        go_ret
        exact ⟨rfl, HB.out.trans (hb9.mono HB.out.size)⟩
      · rw [if_neg hz] at hst
        injection hst with h1 h2
        subst h1 h2
        have hz' : (P == 0) = false := by rw [beq_eq_false_iff_ne]; exact hz
        obtain ⟨t0, t1⟩ := Am.within_bound P 1000 (by omega)
        obtain ⟨t, ht⟩ : ∃ m, Am.within P 1000 = m := ⟨_, rfl⟩
        rw [ht] at t0 t1
        have CW2 : Hid (∀ W, Calls Try.prog 26 #[.int .i64 P, .int .i64 1000] W fun e w' => e = .returned (.int .i64 t) ∧ W = w') := Lib.hid fun W => by
          have := within_any P 1000 W (by omega) (by omega)
          rw [ht] at this
          exact this
        have HS2 := Lib.hid (Ex.steady2 (1 + mb) (1 + t) (by omega) (by omega) (by omega) (by omega))
        clear hP ht hz
        go_wp2_with ((go_at_call 26; refine (CW2.out _).mono ?_; rintro e w' ⟨rfl, rfl⟩))
        refine (exstab_any (1 + mb) _ 1 1 (fun _ => 0) (fun _ => 2 * (1 + mb)) _ 1 1 (fun _ => 0) (fun _ => 2 * (1 + t)) _ (by omega) (by omega) (Pairs.of_has ((Has.new w3 _ _).alloc _) ?_) (Pairs.of_has (Has.new' (w3.alloc _) (w3.heap.size + 1) _ _ (by simp)) ?_)).mono ?_
        · intro j hj
          rcases (show j = 0 ∨ j = 1 by omega) with rfl | rfl <;> rfl
        · intro j hj
          rcases (show j = 0 ∨ j = 1 by omega) with rfl | rfl <;> rfl
        rw [HS2.out]
        rintro e w4 ⟨rfl, hb⟩
        replace HB : Hid (Below w.heap.size w w4) := Lib.hid (((HB.out.alloc hs3 _).alloc (by simp; omega) _).trans (hb.mono (by simp; omega)))
        clear hb
        go_wp2_with (first | (go_at_call 16; refine (awake22_any _).mono ?_; rintro e w9 ⟨rfl, hb9⟩))
        go_ret
        exact ⟨rfl, HB.out.trans (hb9.mono HB.out.size)⟩

set_option maxRecDepth 100000 in
theorem lifted (os : Os) (started : os.Started) (H : Type) (enc : TypeId × Value → H) :
    ReturnsInHanded {} Try.checked os 9 .any (Rows.excessSteadySpec.pre6 enc Try.prog Try.f9 Rows.excessSteadyRow.domain false) (Rows.excessSteadySpec.post enc Try.prog Try.f9 false true false false) := by
  refine returnsInHanded_of_change (C := Try.checked) own started (by kernel_rfl) Try.func9
    (ChangeSpec.witness6 (enc := enc) (C := Try.checked) false ⟨#[], #[.slice none 0 0, .int .i64 0], []⟩ 8 (by kernel_rfl) (by kernel_rfl) (by kernel_rfl) (by kernel_rfl)) ?_
  intro W base args ds gs before hval0 hW hcnd _
  have hval : ∀ (j : Nat) t v, Try.f9.params[j]? = some t → args[j]? = some v → Value.okWide Try.prog W .any base t v := hval0
  have hW' := hW
  obtain ⟨p, q, hA0, hV, rfl, hfz, hnd⟩ := hW
  have hA : DataW.TrodAll enc Try.prog W 0 (fun _ => true) true Try.f9.params.toList args.toList ds p := hA0
  rw [Try.params9] at hA hval
  obtain ⟨v0, vs0, d0, ds0, p0, q0, hargs, rfl, rfl, h0, r0⟩ := trodAll_cons hA
  obtain ⟨v1, vs1, d1, ds1, p1, q1, rfl, rfl, rfl, h1, r1⟩ := trodAll_cons r0
  obtain ⟨rfl, rfl, rfl⟩ := trodAll_nil r1
  obtain rfl : args = #[v0, v1] := by cases args; simp_all
  obtain ⟨rfl, rfl⟩ := trodVars_none hV
  have k0 := h0
  have lt0 : ∀ x ∈ p0, x.block < W.heap.size := by obtain ⟨m, hm⟩ := k0; exact DataW.trod_lt m _ _ _ hm
  obtain ⟨a0, len0, cap0, rfl⟩ := okWide_slice Try.underlying22 (hval 0 22 v0 rfl rfl)
  have r100 : Rd22 W [.slice a0 len0 cap0] := by obtain ⟨fuel, hf⟩ := h0; exact rd22 hf
  have k1 := h1
  have lt1 : ∀ x ∈ p1, x.block < W.heap.size := by obtain ⟨m, hm⟩ := k1; exact DataW.trod_lt m _ _ _ hm
  obtain ⟨a1, rfl⟩ := okWide_int Try.underlying3 (hval 1 3 v1 rfl rfl)
  have r101 : Rd3 W [.int .i64 a1] := by obtain ⟨fuel, hf⟩ := h1; exact rd3 hf
  clear hA0 hval0
  refine (walk _ _ W r100 r101).mono fun e W' ⟨he, bel⟩ => ?_
  subst he
  exact ⟨_, rfl, _, _, _, [], _, [], hW', trodAll_mk1 (shut_bool Try.underlying4 _), (trodAll_cons_mk (Below.trod laidOut (by kernel_rfl) (of_decide_eq_true (by kernel_rfl)) k0 bel lt0) (trodAll_cons_mk (Below.trod laidOut (by kernel_rfl) (of_decide_eq_true (by kernel_rfl)) k1 bel lt1) trodAll_mk0)), rfl, bel.frame _, fun h => by cases h⟩

theorem over : Rows.excessSteadyRow.holds Try.pinned (OpenSpec.ofChange Rows.excessSteadySpec) :=
  OpenClaim.holds_of_wide 9 Try.f9 rfl rfl rfl rfl rfl rfl rfl ⟨rfl, rfl, rfl, rfl, rfl⟩ rfl rfl rfl rfl rfl (by kernel_rfl) Try.func9 (by kernel_rfl)
    (of_decide_eq_true (by kernel_rfl)) (by unfold Func.isWrapper; first | (rw [if_pos (by decide +kernel)]; kernel_rfl) | (rw [if_neg (by decide +kernel)]; exact ⟨rfl, rfl⟩))
    (fun os started H enc _ => lifted os started H enc)

/-- the statement -/
theorem proved : Rows.ExcessSteadySaid := over
#print axioms proved
end Go.Proofs.Ytigoeaidlgofoaa.excessSteady
