/- The law ExcessCede: Cede returns the specified cession or error, and its parts add up and are not negative. No condition. -/
import Derived.Test.YtigoeaidlgofoaaRows
import Derived.Test.YtigoeaidlgofoaaRead
import Derived.Test.YtigoeaidlgofoaaAwake22
import Derived.Test.YtigoeaidlgofoaaArgs2
import Derived.Test.YtigoeaidlgofoaaMade22
import Derived.WalkKit
import Derived.ProofKit
import Derived.OpenShut
import Derived.ShutString
import Derived.ChangeOld
import Derived.Below
namespace Go.Proofs.Ytigoeaidlgofoaa.excessCede
open Go.ChangeShapes Go.WideShapes Go.ChangeAt Go.RowKit
set_option linter.unusedVariables false

theorem own : ownKnob Try.prog.godebug = none := by kernel_rfl
theorem laidOut : laidOutB Try.prog = true := by kernel_rfl

def mn (x y : Int) : Int := if y < x then y else x
theorem mn0 {x y : Int} (hx : 0 ≤ x) (hy : 0 ≤ y) : 0 ≤ mn x y := by unfold mn; split <;> assumption
theorem min3 {u a f : Int} (u0 : 0 ≤ u) (a0 : 0 ≤ a) (f0 : 0 ≤ f) :
    ∃ m : Int, 0 ≤ m ∧ ∀ (ts : Array TypeId) (ty : TypeId) (W : World), (Builtin.min_ ts ty #[.int .i64 u, .int .i64 a, .int .i64 f]).run Try.prog W = .ok (.int .i64 m) W :=
  ⟨mn (mn u a) f, mn0 (mn0 u0 a0) f0, fun ts ty W => rfl⟩

set_option maxHeartbeats 4000000 in
set_option maxRecDepth 100000 in
theorem walk (v0 : Value) (v1 : Value) (v2 : Value) (w : World) (h0 : Rd22 w [v0]) (h1 : Rd3 w [v1]) (h2 : Rd3 w [v2]) :
    Calls Try.prog 11 #[v0, v1, v2] w fun e w' => e = .returned (.bool true) ∧ Below w.heap.size w w' := by
  obtain ⟨A0, n0, c0, z0, rfl, hn0, _, _, hc0, _⟩ := rd_ints h0
  obtain ⟨hour, rfl, _, _⟩ := rd_i64 h1
  obtain ⟨amo, rfl, _, _⟩ := rd_i64 h2
  have HC := Lib.hid hc0
  have HTI := Lib.hid ty_info
  clear h0 h1 h2 hc0
  go_enter Try.func11, Try.ntmps11
  go_wp2_with fail
  refine (made22_any A0 n0 c0 z0 w hn0 HC.out).mono ?_
  rintro e w1 ⟨t, g, c, b, ps, rfl, he, hk4, hk6, hin, hov, hps, hbg, hwb, hpp, hbl, hdk⟩
  have HIN := Lib.hid hin
  have HPP := Lib.hid hpp
  have HB := Lib.hid hbl
  have HD := Lib.hid hdk
  have HO := Lib.hid hov
  have hws := hbl.size
  have hb1 := hdk.lt
  clear he hk4 hk6 hin hov hpp hbl hdk HC
  obtain ⟨f, hf⟩ : ∃ f, fstOf ps = f := ⟨_, rfl⟩
  obtain ⟨q, hq⟩ : ∃ f, sndOf ps = f := ⟨_, rfl⟩
  obtain ⟨m, hm⟩ : ∃ f, ps.length = f := ⟨_, rfl⟩
  rw [hf, hq, hm] at HPP
  rw [hm] at hps ⊢
  clear hf hq hm
  go_upto_region 2 with ((refine wpList_store_has ?_ 59 (.tmp 7) (.tmp 23) ?_ w1.heap.size ?_ t.cells ?_ _ _ (Has.new w1 _ _) HTI.out ?_ ?_ ?_; rfl; rfl; rfl; rfl; rfl; rfl; intro w2 hh2 hl2))
  try simp only [Act.put]
  obtain ⟨T, hT⟩ : ∃ T, w1.heap.size = T := ⟨_, rfl⟩
  have hb2 : Below w1.heap.size w1 w2 := ((Below.refl _ _).alloc (Nat.le_refl _) _).trans (hl2.below (fun k hk => by omega) (by simp))
  have hT2 := hh2.lt
  replace HIN : Hid (t.In w2 T) := Lib.hid (by rw [← hT]; exact HIN.out.below hb2)
  replace HPP : Hid (Pairs w2 T (some ⟨g, 0, none⟩) m f q) := Lib.hid (by rw [← hT]; exact HPP.out.below hb2)
  replace HB : Hid (Below w.heap.size w w2) := Lib.hid (HB.out.trans (hb2.mono hws))
  replace HD : Hid (IsDeck w2 b) := Lib.hid (HD.out.below hb2 hb1)
  have HX : Hid (t.Box w2 T) := Lib.hid (by rw [← hT]; exact hh2)
  have hwT : w.heap.size ≤ T := by omega
  have hbT : b < T := by omega
  rw [hT]
  clear hT hb2 hh2 hl2 hb1 hT2
  go_wp2_with fail
  refine (next_any b _ _ HD.out (by omega) (by omega)).mono ?_
  rintro e w3 ⟨v, rfl, v0, v1, hk2, hd2⟩
  replace HX := Lib.hid (HX.out.keeps hk2 (by omega))
  replace HIN := Lib.hid (HIN.out.step hk2 HO.out)
  replace HPP : Hid (Pairs w3 T (some ⟨g, 0, none⟩) m f q) := Lib.hid (Cells.At.step (R := b) ⟨HPP.out, fun ad e => by injection e with e; subst e; exact ⟨hbg, hbg⟩⟩ hk2).1
  replace HB := Lib.hid (HB.out.trans (hk2.below hwb HB.out.size))
  replace HD := Lib.hid hd2
  clear hk2 hd2
  go_wp2_with fail
  refine (upto_any b _ _ HD.out (by omega) (by omega)).mono ?_
  rintro e w4 ⟨na, rfl, na0, na1, hk2, hd2⟩
  have HS : Hid (IxSt w T t (some ⟨g, 0, none⟩) m f q 66 [] w4) := Lib.hid ⟨HX.out.keeps hk2 (by omega), HIN.out.step hk2 HO.out, (Cells.At.step (R := b) ⟨HPP.out, fun ad e => by injection e with e; subst e; exact ⟨hbg, hbg⟩⟩ hk2).1, HB.out.trans (hk2.below hwb HB.out.size), hwT, fun e he => by cases he⟩
  clear hk2 hd2 HX HIN HPP HB HD HO
  obtain ⟨⟨x1, y1, z1, e1⟩, hr1⟩ : ∃ r, Ex.ced (Ex.ixd t m f q v) na = r := ⟨_, rfl⟩
  obtain ⟨⟨x2, y2, z2, e2⟩, hr2⟩ : ∃ r, Ex.ced (Ex.ixd t m f q hour) amo = r := ⟨_, rfl⟩
  have C1 : Hid (∀ W, t.In W W.heap.size → Pairs W W.heap.size (some ⟨g, 0, none⟩) m f q → Calls Try.prog 35 #[.agg t.cells, .slice (some ⟨g, 0, none⟩) m c, .int .i64 v, .int .i64 na] W (CsPost (x1, y1, z1, e1) W)) := Lib.hid fun W h1 h2 => by rw [← hr1]; exact cede_any t (some ⟨g, 0, none⟩) m c f q v na W h1 (by omega) h2
  have C2 : Hid (∀ W, t.In W W.heap.size → Pairs W W.heap.size (some ⟨g, 0, none⟩) m f q → Calls Try.prog 36 #[.agg t.cells, .slice (some ⟨g, 0, none⟩) m c, .int .i64 v, .int .i64 na] W (CsPost (x1, y1, z1, e1) W)) := Lib.hid fun W h1 h2 => by rw [← hr1]; exact rcede_any t (some ⟨g, 0, none⟩) m c f q v na W h1 (by omega) h2
  have C3 : Hid (∀ W, t.In W W.heap.size → Pairs W W.heap.size (some ⟨g, 0, none⟩) m f q → Calls Try.prog 35 #[.agg t.cells, .slice (some ⟨g, 0, none⟩) m c, .int .i64 hour, .int .i64 amo] W (CsPost (x2, y2, z2, e2) W)) := Lib.hid fun W h1 h2 => by rw [← hr2]; exact cede_any t (some ⟨g, 0, none⟩) m c f q hour amo W h1 (by omega) h2
  have C4 : Hid (∀ W, t.In W W.heap.size → Pairs W W.heap.size (some ⟨g, 0, none⟩) m f q → Calls Try.prog 36 #[.agg t.cells, .slice (some ⟨g, 0, none⟩) m c, .int .i64 hour, .int .i64 amo] W (CsPost (x2, y2, z2, e2) W)) := Lib.hid fun W h1 h2 => by rw [← hr2]; exact rcede_any t (some ⟨g, 0, none⟩) m c f q hour amo W h1 (by omega) h2
  have hsum := Ex.ced_sum (Ex.ixd_bound (t := t) (n := m) (f := f) (g := q) (h := v)) (a := na)
  rw [hr1] at hsum
  have HSM := Lib.hid hsum
  clear hr1 hr2 hsum
  go_wp2_with ((refine wpList_load_has ?_ 59 (.tmp 7) ?_ T ?_ _ _ _ HS.out.box Try.underlying59 ?_ HTI.out ?_; rfl; rfl; rfl; rfl))
  refine (C1.out _ HS.out.inn HS.out.prs).mono ?_
  rintro e wa1 ⟨rfl, hb⟩
  replace HS := Lib.hid (HS.out.next hb)
  clear hb C1
  try simp only
  go_upto_region 4 with (fail)
  replace HS := Lib.hid (HS.out.push #[.int .i64 x1, .int .i64 y1, .int .i64 z1])
  obtain ⟨wb1, hw⟩ : ∃ W, wa1.alloc (.cells #[.int .i64 x1, .int .i64 y1, .int .i64 z1] 66) = W := ⟨_, rfl⟩
  obtain ⟨L1, hL⟩ : ∃ W, wa1.heap.size = W := ⟨_, rfl⟩
  rw [hw] at HS
  rw [hL] at HS
  rw [hw, hL]
  clear hw hL
  go_wp2_with ((refine wpList_load_has ?_ 59 (.tmp 7) ?_ T ?_ _ _ _ HS.out.box Try.underlying59 ?_ HTI.out ?_; rfl; rfl; rfl; rfl))
  refine (C2.out _ HS.out.inn HS.out.prs).mono ?_
  rintro e wa2 ⟨rfl, hb⟩
  replace HS := Lib.hid (HS.out.next hb)
  clear hb C2
  try simp only
  go_upto_region 5 with (fail)
  replace HS := Lib.hid (HS.out.push #[.int .i64 x1, .int .i64 y1, .int .i64 z1])
  obtain ⟨wb2, hw⟩ : ∃ W, wa2.alloc (.cells #[.int .i64 x1, .int .i64 y1, .int .i64 z1] 66) = W := ⟨_, rfl⟩
  obtain ⟨L2, hL⟩ : ∃ W, wa2.heap.size = W := ⟨_, rfl⟩
  rw [hw] at HS
  rw [hL] at HS
  rw [hw, hL]
  clear hw hL
  go_wp2_with ((refine wpList_load_has ?_ 59 (.tmp 7) ?_ T ?_ _ _ _ HS.out.box Try.underlying59 ?_ HTI.out ?_; rfl; rfl; rfl; rfl))
  refine (C3.out _ HS.out.inn HS.out.prs).mono ?_
  rintro e wa3 ⟨rfl, hb⟩
  replace HS := Lib.hid (HS.out.next hb)
  clear hb C3
  try simp only
  go_upto_region 6 with (fail)
  replace HS := Lib.hid (HS.out.push #[.int .i64 x2, .int .i64 y2, .int .i64 z2])
  obtain ⟨wb3, hw⟩ : ∃ W, wa3.alloc (.cells #[.int .i64 x2, .int .i64 y2, .int .i64 z2] 66) = W := ⟨_, rfl⟩
  obtain ⟨L3, hL⟩ : ∃ W, wa3.heap.size = W := ⟨_, rfl⟩
  rw [hw] at HS
  rw [hL] at HS
  rw [hw, hL]
  clear hw hL
  go_wp2_with ((refine wpList_load_has ?_ 59 (.tmp 7) ?_ T ?_ _ _ _ HS.out.box Try.underlying59 ?_ HTI.out ?_; rfl; rfl; rfl; rfl))
  refine (C4.out _ HS.out.inn HS.out.prs).mono ?_
  rintro e wa4 ⟨rfl, hb⟩
  replace HS := Lib.hid (HS.out.next hb)
  clear hb C4
  try simp only
  go_upto_region 7 with (fail)
  replace HS := Lib.hid (HS.out.push #[.int .i64 x2, .int .i64 y2, .int .i64 z2])
  obtain ⟨wb4, hw⟩ : ∃ W, wa4.alloc (.cells #[.int .i64 x2, .int .i64 y2, .int .i64 z2] 66) = W := ⟨_, rfl⟩
  obtain ⟨L4, hL⟩ : ∃ W, wa4.heap.size = W := ⟨_, rfl⟩
  rw [hw] at HS
  rw [hL] at HS
  rw [hw, hL]
  clear hw hL
  have q10 := (HS.out.ls (L1, #[.int .i64 x1, .int .i64 y1, .int .i64 z1]) (by simp)).cell 0
  have q11 := (HS.out.ls (L1, #[.int .i64 x1, .int .i64 y1, .int .i64 z1]) (by simp)).cell 1
  have q12 := (HS.out.ls (L1, #[.int .i64 x1, .int .i64 y1, .int .i64 z1]) (by simp)).cell 2
  have q20 := (HS.out.ls (L2, #[.int .i64 x1, .int .i64 y1, .int .i64 z1]) (by simp)).cell 0
  have q21 := (HS.out.ls (L2, #[.int .i64 x1, .int .i64 y1, .int .i64 z1]) (by simp)).cell 1
  have q22 := (HS.out.ls (L2, #[.int .i64 x1, .int .i64 y1, .int .i64 z1]) (by simp)).cell 2
  have q30 := (HS.out.ls (L3, #[.int .i64 x2, .int .i64 y2, .int .i64 z2]) (by simp)).cell 0
  have q31 := (HS.out.ls (L3, #[.int .i64 x2, .int .i64 y2, .int .i64 z2]) (by simp)).cell 1
  have q32 := (HS.out.ls (L3, #[.int .i64 x2, .int .i64 y2, .int .i64 z2]) (by simp)).cell 2
  have q40 := (HS.out.ls (L4, #[.int .i64 x2, .int .i64 y2, .int .i64 z2]) (by simp)).cell 0
  have q41 := (HS.out.ls (L4, #[.int .i64 x2, .int .i64 y2, .int .i64 z2]) (by simp)).cell 1
  have q42 := (HS.out.ls (L4, #[.int .i64 x2, .int .i64 y2, .int .i64 z2]) (by simp)).cell 2
  simp only [List.getElem?_toArray, List.getElem?_cons_succ, List.getElem?_cons_zero] at q10 q11 q12 q20 q21 q22 q30 q31 q32 q40 q41 q42
  have HBE := Lib.hid HS.out.below
  clear HS
  by_cases he : e1 = 0
  · obtain ⟨s1, s2, s3, s4, s5⟩ := HSM.out he
    subst he
    obtain ⟨mi, hmi, hmin⟩ := min3 (u := y1) (a := x1) (f := z1) (by omega) (by omega) (by omega)
    have hw1 : IntKind.i64.wrap (y1 + x1) = y1 + x1 := by rw [IntKind.wrap_i64]; omega
    have hw2 : IntKind.i64.wrap (y1 + x1 + z1) = y1 + x1 + z1 := by rw [IntKind.wrap_i64]; omega
    have hsu : y1 + x1 + z1 = na := by omega
    have hge : decide (0 ≤ mi) = true := by rw [decide_eq_true_iff]; exact hmi
    have hsb : (y1 + x1 + z1 == na) = true := by rw [beq_iff_eq]; exact hsu
    clear HSM
    go_wp2_with (first | (go_at_call 16; refine (awake22_any _).mono ?_; rintro e w9 ⟨rfl, hb9⟩))
    go_ret
    exact ⟨rfl, HBE.out.trans (hb9.mono HBE.out.size)⟩
  · have he1 : (e1 == 0) = false := by rw [beq_eq_false_iff_ne]; exact he
    have he2 : (e1 != 0) = true := by simp [he]
    clear HSM he
    go_wp2_with (first | (go_at_call 16; refine (awake22_any _).mono ?_; rintro e w9 ⟨rfl, hb9⟩))
    go_ret
    exact ⟨rfl, HBE.out.trans (hb9.mono HBE.out.size)⟩

set_option maxRecDepth 100000 in
theorem lifted (os : Os) (started : os.Started) (H : Type) (enc : TypeId × Value → H) :
    ReturnsInHanded {} Try.checked os 11 .any (Rows.excessCedeSpec.pre6 enc Try.prog Try.f11 Rows.excessCedeRow.domain false) (Rows.excessCedeSpec.post enc Try.prog Try.f11 false true false false) := by
  refine returnsInHanded_of_change (C := Try.checked) own started (by kernel_rfl) Try.func11
    (ChangeSpec.witness6 (enc := enc) (C := Try.checked) false ⟨#[], #[.slice none 0 0, .int .i64 0, .int .i64 0], []⟩ 8 (by kernel_rfl) (by kernel_rfl) (by kernel_rfl) (by kernel_rfl)) ?_
  intro W base args ds gs before hval0 hW hcnd _
  have hval : ∀ (j : Nat) t v, Try.f11.params[j]? = some t → args[j]? = some v → Value.okWide Try.prog W .any base t v := hval0
  have hW' := hW
  obtain ⟨p, q, hA0, hV, rfl, hfz, hnd⟩ := hW
  have hA : DataW.TrodAll enc Try.prog W 0 (fun _ => true) true Try.f11.params.toList args.toList ds p := hA0
  rw [Try.params11] at hA hval
  obtain ⟨v0, vs0, d0, ds0, p0, q0, hargs, rfl, rfl, h0, r0⟩ := trodAll_cons hA
  obtain ⟨v1, vs1, d1, ds1, p1, q1, rfl, rfl, rfl, h1, r1⟩ := trodAll_cons r0
  obtain ⟨v2, vs2, d2, ds2, p2, q2, rfl, rfl, rfl, h2, r2⟩ := trodAll_cons r1
  obtain ⟨rfl, rfl, rfl⟩ := trodAll_nil r2
  obtain rfl : args = #[v0, v1, v2] := by cases args; simp_all
  obtain ⟨rfl, rfl⟩ := trodVars_none hV
  have k0 := h0
  have lt0 : ∀ x ∈ p0, x.block < W.heap.size := by obtain ⟨m, hm⟩ := k0; exact DataW.trod_lt m _ _ _ hm
  obtain ⟨a0, len0, cap0, rfl⟩ := okWide_slice Try.underlying22 (hval 0 22 v0 rfl rfl)
  have r100 : Rd22 W [.slice a0 len0 cap0] := by obtain ⟨fuel, hf⟩ := h0; exact rd22 hf
  have k1 := h1
  have lt1 : ∀ x ∈ p1, x.block < W.heap.size := by obtain ⟨m, hm⟩ := k1; exact DataW.trod_lt m _ _ _ hm
  obtain ⟨a1, rfl⟩ := okWide_int Try.underlying3 (hval 1 3 v1 rfl rfl)
  have r101 : Rd3 W [.int .i64 a1] := by obtain ⟨fuel, hf⟩ := h1; exact rd3 hf
  have k2 := h2
  have lt2 : ∀ x ∈ p2, x.block < W.heap.size := by obtain ⟨m, hm⟩ := k2; exact DataW.trod_lt m _ _ _ hm
  obtain ⟨a2, rfl⟩ := okWide_int Try.underlying3 (hval 2 3 v2 rfl rfl)
  have r102 : Rd3 W [.int .i64 a2] := by obtain ⟨fuel, hf⟩ := h2; exact rd3 hf
  clear hA0 hval0
  refine (walk _ _ _ W r100 r101 r102).mono fun e W' ⟨he, bel⟩ => ?_
  subst he
  exact ⟨_, rfl, _, _, _, [], _, [], hW', trodAll_mk1 (shut_bool Try.underlying4 _), (trodAll_cons_mk (Below.trod laidOut (by kernel_rfl) (of_decide_eq_true (by kernel_rfl)) k0 bel lt0) (trodAll_cons_mk (Below.trod laidOut (by kernel_rfl) (of_decide_eq_true (by kernel_rfl)) k1 bel lt1) (trodAll_cons_mk (Below.trod laidOut (by kernel_rfl) (of_decide_eq_true (by kernel_rfl)) k2 bel lt2) trodAll_mk0))), rfl, bel.frame _, fun h => by cases h⟩

theorem over : Rows.excessCedeRow.holds Try.pinned (OpenSpec.ofChange Rows.excessCedeSpec) :=
  OpenClaim.holds_of_wide 11 Try.f11 rfl rfl rfl rfl rfl rfl rfl ⟨rfl, rfl, rfl, rfl, rfl⟩ rfl rfl rfl rfl rfl (by kernel_rfl) Try.func11 (by kernel_rfl)
    (of_decide_eq_true (by kernel_rfl)) (by unfold Func.isWrapper; first | (rw [if_pos (by decide +kernel)]; kernel_rfl) | (rw [if_neg (by decide +kernel)]; exact ⟨rfl, rfl⟩))
    (fun os started H enc _ => lifted os started H enc)

/-- the statement -/
theorem proved : Rows.ExcessCedeSaid := over
#print axioms proved
end Go.Proofs.Ytigoeaidlgofoaa.excessCede
