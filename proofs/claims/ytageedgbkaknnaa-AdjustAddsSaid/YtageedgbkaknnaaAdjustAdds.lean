/- The law AdjustAdds: the gross amount is the sum of what the insured bears and of what is paid, and nothing is negative, for every input. No condition. -/
import Derived.Test.YtageedgbkaknnaaRows
import Derived.Test.YtageedgbkaknnaaRead
import Derived.Test.YtageedgbkaknnaaAdjUse
import Derived.WalkKit
import Derived.ProofKit
import Derived.OpenShut
import Derived.ShutString
import Derived.ChangeOld
import Derived.Below
namespace Go.Proofs.Ytageedgbkaknnaa.adjustAdds
open Go.ChangeShapes Go.WideShapes Go.ChangeAt Go.RowKit
set_option linter.unusedVariables false

theorem own : ownKnob Try.prog.godebug = none := by kernel_rfl
theorem laidOut : laidOutB Try.prog = true := by kernel_rfl

def mn (x y : Int) : Int := if y < x then y else x
theorem mn0 {x y : Int} (hx : 0 ≤ x) (hy : 0 ≤ y) : 0 ≤ mn x y := by unfold mn; split <;> assumption
theorem min8 {u a f d k o s t : Int} (u0 : 0 ≤ u) (a0 : 0 ≤ a) (f0 : 0 ≤ f) (d0 : 0 ≤ d) (k0 : 0 ≤ k) (o0 : 0 ≤ o) (s0 : 0 ≤ s) (t0 : 0 ≤ t) :
    ∃ m : Int, 0 ≤ m ∧ ∀ (ts : Array TypeId) (ty : TypeId) (W : World), (Builtin.min_ ts ty #[.int .i64 u, .int .i64 a, .int .i64 f, .int .i64 d, .int .i64 k, .int .i64 o, .int .i64 s, .int .i64 t]).run Try.prog W = .ok (.int .i64 m) W :=
  ⟨mn (mn (mn (mn (mn (mn (mn u a) f) d) k) o) s) t, mn0 (mn0 (mn0 (mn0 (mn0 (mn0 (mn0 u0 a0) f0) d0) k0) o0) s0) t0, fun ts ty W => rfl⟩

set_option maxHeartbeats 4000000 in
set_option maxRecDepth 100000 in
theorem walk (v0 : Value) (w : World) (h0 : Rd24 w [v0]) :
    Calls Try.prog 4 #[v0] w fun e w' => e = .returned (.bool true) ∧ Below w.heap.size w w' := by
  obtain ⟨A, n, c, z, rfl, hn, _, _, hc, _⟩ := rd_ints h0
  have HC := Lib.hid hc
  clear h0 hc
  go_enter Try.func4, Try.ntmps4
  go_wp2_with fail
  refine (made16_any A n c z _ hn HC.out).mono ?_
  rintro e w1 ⟨⟨v, l, de, fr, co, av⟩, ⟨va, su, gr⟩, rfl, hd, hi, hb⟩
  have HB1 := Lib.hid hb
  have he := Ad.err_ok hd hi
  obtain ⟨⟨g, u, a, f, d, k, o, s, t⟩, hR⟩ : ∃ R, Ad.res ⟨v, l, de, fr, co, av⟩ ⟨va, su, gr⟩ = R := ⟨_, rfl⟩
  have CA := adjust_c v l de fr co av none 0 0 va su gr g u a f d k o s t 0 hR he
  obtain ⟨rfl, u0, a0, f0, d0, k0, o0, s0, t0, hs, hsm, hins, hlim⟩ := Ad.adds hd hi hR
  have HS := Lib.hid hs
  have HI := Lib.hid hins
  have HL := Lib.hid hlim
  have hu : u ≤ 1073741824 := by omega
  have b1 : u + a ≤ 1073741824 := by omega
  have b2 : u + a + f ≤ 1073741824 := by omega
  have b3 : u + a + f + d ≤ 1073741824 := by omega
  have b4 : u + a + f + d + k ≤ 1073741824 := by omega
  have b5 : u + a + f + d + k + o ≤ 1073741824 := by omega
  have b6 : u + a + f + d + k + o + s ≤ 1073741824 := by omega
  have b7 : u + a + f + d + k + o + s + t ≤ 1073741824 := by omega
  clear hR he hd hi hb hs hins hlim HC
  have hlt := HB1.out.size
  unfold Ad.Dec.agg Ad.Itm.agg
  simp only
  go_wp2_with fail
  refine (CA.out _).mono ?_
  rintro e w2 ⟨rfl, hb⟩
  have HX := Lib.hid (((Has.new w1 _ _).alloc _).below hb (by simp; omega))
  have HY := Lib.hid ((Has.new' (w1.alloc _) (w1.heap.size + 1) _ _ (by simp)).below hb (by simp))
  have HB2 : Hid (Below w.heap.size w w2) := Lib.hid (((HB1.out.alloc hlt _).alloc (by simp; omega) _).trans (hb.mono (by simp; omega)))
  clear hb
  obtain ⟨x0, x1, x2⟩ := HX.out.rules
  obtain ⟨y0, y1, y2⟩ := HY.out.rules
  obtain ⟨m, hm0, hm⟩ := min8 u0 a0 f0 d0 k0 o0 s0 t0
  have hss : (u + a + f + d + k + o + s + t == g) = true := by rw [beq_iff_eq]; exact HS.out
  by_cases hv : v = 4
  · subst hv
    by_cases hl : l < 0
    · go_wp2_with (first | (go_at_call 12; refine (awake16_any _).mono ?_; rintro e w4 ⟨rfl, hb4⟩))
      go_ret
      exact ⟨rfl, (HB2.out.alloc HB2.out.size _).trans (hb4.mono (by simp; have := HB2.out.size; omega))⟩
    · have htl : t ≤ l := by have := HL.out; omega
      go_wp2_with (first | (go_at_call 12; refine (awake16_any _).mono ?_; rintro e w4 ⟨rfl, hb4⟩))
      go_ret
      exact ⟨rfl, (HB2.out.alloc HB2.out.size _).trans (hb4.mono (by simp; have := HB2.out.size; omega))⟩
  · have ht : t = 0 := by have := HI.out; omega
    have hv' : (v == 4) = false := by rw [beq_eq_false_iff_ne]; exact hv
    have ht' : (t == 0) = true := by rw [beq_iff_eq]; exact ht
    have htl : l < 0 ∨ t ≤ l := HL.out
    clear ht
    by_cases hl : l < 0
    · clear htl
      go_wp2_with (first | (go_at_call 12; refine (awake16_any _).mono ?_; rintro e w4 ⟨rfl, hb4⟩))
      go_ret
      exact ⟨rfl, (HB2.out.alloc HB2.out.size _).trans (hb4.mono (by simp; have := HB2.out.size; omega))⟩
    · replace htl : t ≤ l := by omega
      go_wp2_with (first | (go_at_call 12; refine (awake16_any _).mono ?_; rintro e w4 ⟨rfl, hb4⟩))
      go_ret
      exact ⟨rfl, (HB2.out.alloc HB2.out.size _).trans (hb4.mono (by simp; have := HB2.out.size; omega))⟩

set_option maxRecDepth 100000 in
theorem lifted (os : Os) (started : os.Started) (H : Type) (enc : TypeId × Value → H) :
    ReturnsInHanded {} Try.checked os 4 .any (Rows.adjustAddsSpec.pre6 enc Try.prog Try.f4 Rows.adjustAddsRow.domain false) (Rows.adjustAddsSpec.post enc Try.prog Try.f4 false true false false) := by
  refine returnsInHanded_of_change (C := Try.checked) own started (by kernel_rfl) Try.func4
    (ChangeSpec.witness6 (enc := enc) (C := Try.checked) false ⟨#[], #[.slice none 0 0], []⟩ 8 (by kernel_rfl) (by kernel_rfl) (by kernel_rfl) (by kernel_rfl)) ?_
  intro W base args ds gs before hval0 hW hcnd _
  have hval : ∀ (j : Nat) t v, Try.f4.params[j]? = some t → args[j]? = some v → Value.okWide Try.prog W .any base t v := hval0
  have hW' := hW
  obtain ⟨p, q, hA0, hV, rfl, hfz, hnd⟩ := hW
  have hA : DataW.TrodAll enc Try.prog W 0 (fun _ => true) true Try.f4.params.toList args.toList ds p := hA0
  rw [Try.params4] at hA hval
  obtain ⟨v0, vs0, d0, ds0, p0, q0, hargs, rfl, rfl, h0, r0⟩ := trodAll_cons hA
  obtain ⟨rfl, rfl, rfl⟩ := trodAll_nil r0
  obtain rfl : args = #[v0] := by cases args; simp_all
  obtain ⟨rfl, rfl⟩ := trodVars_none hV
  have k0 := h0
  have lt0 : ∀ x ∈ p0, x.block < W.heap.size := by obtain ⟨m, hm⟩ := k0; exact DataW.trod_lt m _ _ _ hm
  obtain ⟨a0, len0, cap0, rfl⟩ := okWide_slice Try.underlying24 (hval 0 24 v0 rfl rfl)
  have r100 : Rd24 W [.slice a0 len0 cap0] := by obtain ⟨fuel, hf⟩ := h0; exact rd24 hf
  clear hA0 hval0
  refine (walk _ W r100).mono fun e W' ⟨he, bel⟩ => ?_
  subst he
  exact ⟨_, rfl, _, _, _, [], _, [], hW', trodAll_mk1 (shut_bool Try.underlying4 _), (trodAll_cons_mk (Below.trod laidOut (by kernel_rfl) (of_decide_eq_true (by kernel_rfl)) k0 bel lt0) trodAll_mk0), rfl, bel.frame _, fun h => by cases h⟩

theorem over : Rows.adjustAddsRow.holds Try.pinned (OpenSpec.ofChange Rows.adjustAddsSpec) :=
  OpenClaim.holds_of_wide 4 Try.f4 rfl rfl rfl rfl rfl rfl rfl ⟨rfl, rfl, rfl, rfl, rfl⟩ rfl rfl rfl rfl rfl (by kernel_rfl) Try.func4 (by kernel_rfl)
    (of_decide_eq_true (by kernel_rfl)) (by unfold Func.isWrapper; first | (rw [if_pos (by decide +kernel)]; kernel_rfl) | (rw [if_neg (by decide +kernel)]; exact ⟨rfl, rfl⟩))
    (fun os started H enc _ => lifted os started H enc)

/-- the statement -/
theorem proved : Rows.AdjustAddsSaid := over
#print axioms proved
end Go.Proofs.Ytageedgbkaknnaa.adjustAdds
