/- The law ExcessIndexed: Indexed returns the specified layer or error. No condition. -/
import Derived.Test.YtigoeaidlgofoaaRows
import Derived.Test.YtigoeaidlgofoaaRead
import Derived.Test.YtigoeaidlgofoaaAwake22
import Derived.Test.YtigoeaidlgofoaaArgs2
import Derived.Test.YtigoeaidlgofoaaMade22
import Derived.WalkKit
import Derived.ProofKit
import Derived.OpenShut
import Derived.ShutString
import Derived.ChangeOld
import Derived.Below
namespace Go.Proofs.Ytigoeaidlgofoaa.excessIndexed
open Go.ChangeShapes Go.WideShapes Go.ChangeAt Go.RowKit
set_option linter.unusedVariables false

theorem own : ownKnob Try.prog.godebug = none := by kernel_rfl
theorem laidOut : laidOutB Try.prog = true := by kernel_rfl



set_option maxHeartbeats 4000000 in
set_option maxRecDepth 100000 in
theorem walk (v0 : Value) (v1 : Value) (v2 : Value) (v3 : Value) (w : World) (h0 : Rd22 w [v0]) (h1 : Rd40 w [v1]) (h2 : Rd3 w [v2]) (h3 : Rd5 w [v3]) :
    Calls Try.prog 10 #[v0, v1, v2, v3] w fun e w' => e = .returned (.bool true) ∧ Below w.heap.size w w' := by
  obtain ⟨A0, n0, c0, z0, rfl, hn0, _, _, hc0, _⟩ := rd_ints h0
  obtain ⟨A1, n1, c1, f1, g1, rfl, hn1, _, _, hp1, _⟩ := rd_index h1
  obtain ⟨hour, rfl, _, _⟩ := rd_i64 h2
  obtain ⟨kd, rfl, kd0, kd1⟩ := rd_u8 h3
  have HC := Lib.hid hc0
  have HP1 := Lib.hid hp1
  have HTI := Lib.hid ty_info
  clear h0 h1 h2 h3 hc0 hp1
  by_cases hl1 : 150 < n1
  · go_enter Try.func10, Try.ntmps10
    go_wp2_with (first | (go_at_call 16; refine (awake22_any _).mono ?_; rintro e w9 ⟨rfl, hb9⟩))
    go_ret
    exact ⟨rfl, hb9⟩
  have hl1' : n1 ≤ 150 := by omega
  clear hl1
  go_enter Try.func10, Try.ntmps10
  go_wp2_with fail
  refine (made22_any A0 n0 c0 z0 w hn0 HC.out).mono ?_
  rintro e w1 ⟨t, g, c, b, ps, rfl, he, hk4, hk6, hin, hov, hps, hbg, hwb, hpp, hbl, hdk⟩
  have HIN := Lib.hid hin
  have HPP := Lib.hid hpp
  have HB := Lib.hid hbl
  have HD := Lib.hid hdk
  have HO := Lib.hid hov
  have hws := hbl.size
  have hb1 := hdk.lt
  clear he hk4 hk6 hin hov hpp hbl hdk HC
  obtain ⟨f, hf⟩ : ∃ f, fstOf ps = f := ⟨_, rfl⟩
  obtain ⟨q, hq⟩ : ∃ f, sndOf ps = f := ⟨_, rfl⟩
  obtain ⟨m, hm⟩ : ∃ f, ps.length = f := ⟨_, rfl⟩
  rw [hf, hq, hm] at HPP
  rw [hm] at hps ⊢
  clear hf hq hm
  go_upto_region 4 with ((refine wpList_store_has ?_ 59 (.tmp 9) (.tmp 33) ?_ w1.heap.size ?_ t.cells ?_ _ _ (Has.new w1 _ _) HTI.out ?_ ?_ ?_; rfl; rfl; rfl; rfl; rfl; rfl; intro w2 hh2 hl2))
  try simp only [Act.put]
  obtain ⟨T, hT⟩ : ∃ T, w1.heap.size = T := ⟨_, rfl⟩
  have hb2 : Below w1.heap.size w1 w2 := ((Below.refl _ _).alloc (Nat.le_refl _) _).trans (hl2.below (fun k hk => by omega) (by simp))
  have hT2 := hh2.lt
  replace HIN : Hid (t.In w2 T) := Lib.hid (by rw [← hT]; exact HIN.out.below hb2)
  replace HPP : Hid (Pairs w2 T (some ⟨g, 0, none⟩) m f q) := Lib.hid (by rw [← hT]; exact HPP.out.below hb2)
  replace HB : Hid (Below w.heap.size w w2) := Lib.hid (HB.out.trans (hb2.mono hws))
  replace HD : Hid (IsDeck w2 b) := Lib.hid (HD.out.below hb2 hb1)
  have HX : Hid (t.Box w2 T) := Lib.hid (by rw [← hT]; exact hh2)
  have hwT : w.heap.size ≤ T := by omega
  have hbT : b < T := by omega
  rw [hT]
  clear hT hb2 hh2 hl2 hb1 hT2
  go_wp2_with fail
  refine (next_any b _ _ HD.out (by omega) (by omega)).mono ?_
  rintro e w3 ⟨v, rfl, v0, v1, hk2, hd2⟩
  have HS : Hid (IxSt w T t (some ⟨g, 0, none⟩) m f q 36 [] w3) := Lib.hid ⟨HX.out.keeps hk2 (by omega), HIN.out.step hk2 HO.out, (Cells.At.step (R := b) ⟨HPP.out, fun ad e => by injection e with e; subst e; exact ⟨hbg, hbg⟩⟩ hk2).1, HB.out.trans (hk2.below hwb HB.out.size), hwT, fun e he => by cases he⟩
  clear hk2 hd2 HX HIN HPP HB HD HO
  obtain ⟨⟨x1, y1, e1⟩, hr1⟩ : ∃ r, Ex.ixd t m f q (v - 3) = r := ⟨_, rfl⟩
  obtain ⟨⟨x2, y2, e2⟩, hr2⟩ : ∃ r, Ex.ixd t n1 f1 g1 hour = r := ⟨_, rfl⟩
  obtain ⟨⟨x3, y3, e3⟩, hr3⟩ : ∃ r, Ex.ixd { t with kind := kd % 8 } m f q (v - 3) = r := ⟨_, rfl⟩
  have C1 : Hid (∀ W, t.In W W.heap.size → Pairs W W.heap.size (some ⟨g, 0, none⟩) m f q → Calls Try.prog 33 #[.agg t.cells, .slice (some ⟨g, 0, none⟩) m c, .int .i64 (v - 3)] W (LyPost (x1, y1, e1) W)) := Lib.hid fun W h1 h2 => by rw [← hr1]; exact indexed_any t (some ⟨g, 0, none⟩) m c f q (v - 3) W h1 (by omega) h2
  have C2 : Hid (∀ W, t.In W W.heap.size → Pairs W W.heap.size (some ⟨g, 0, none⟩) m f q → Calls Try.prog 34 #[.agg t.cells, .slice (some ⟨g, 0, none⟩) m c, .int .i64 (v - 3)] W (LyPost (x1, y1, e1) W)) := Lib.hid fun W h1 h2 => by rw [← hr1]; exact rindexed_any t (some ⟨g, 0, none⟩) m c f q (v - 3) W h1 (by omega) h2
  have C3 : Hid (∀ W, t.In W W.heap.size → Pairs W W.heap.size A1 n1 f1 g1 → Calls Try.prog 33 #[.agg t.cells, .slice A1 n1 c1, .int .i64 hour] W (LyPost (x2, y2, e2) W)) := Lib.hid fun W h1 h2 => by rw [← hr2]; exact indexed_any t A1 n1 c1 f1 g1 hour W h1 (by omega) h2
  have C4 : Hid (∀ W, t.In W W.heap.size → Pairs W W.heap.size A1 n1 f1 g1 → Calls Try.prog 34 #[.agg t.cells, .slice A1 n1 c1, .int .i64 hour] W (LyPost (x2, y2, e2) W)) := Lib.hid fun W h1 h2 => by rw [← hr2]; exact rindexed_any t A1 n1 c1 f1 g1 hour W h1 (by omega) h2
  have C5 : Hid (∀ W, t.In W W.heap.size → Pairs W W.heap.size (some ⟨g, 0, none⟩) m f q → Calls Try.prog 33 #[.agg ({ t with kind := kd % 8 } : Ty).cells, .slice (some ⟨g, 0, none⟩) m c, .int .i64 (v - 3)] W (LyPost (x3, y3, e3) W)) := Lib.hid fun W h1 h2 => by rw [← hr3]; exact indexed_any { t with kind := kd % 8 } (some ⟨g, 0, none⟩) m c f q (v - 3) W (h1.kind _) (by omega) h2
  have C6 : Hid (∀ W, t.In W W.heap.size → Pairs W W.heap.size (some ⟨g, 0, none⟩) m f q → Calls Try.prog 34 #[.agg ({ t with kind := kd % 8 } : Ty).cells, .slice (some ⟨g, 0, none⟩) m c, .int .i64 (v - 3)] W (LyPost (x3, y3, e3) W)) := Lib.hid fun W h1 h2 => by rw [← hr3]; exact rindexed_any { t with kind := kd % 8 } (some ⟨g, 0, none⟩) m c f q (v - 3) W (h1.kind _) (by omega) h2
  clear hr1 hr2 hr3
  go_wp2_with ((refine wpList_load_has ?_ 59 (.tmp 9) ?_ T ?_ _ _ _ HS.out.box Try.underlying59 ?_ HTI.out ?_; rfl; rfl; rfl; rfl))
  refine (C1.out _ HS.out.inn HS.out.prs).mono ?_
  rintro e wa1 ⟨rfl, hb⟩
  replace HS := Lib.hid (HS.out.next hb)
  clear hb C1
  try simp only
  go_upto_region 6 with (fail)
  replace HS := Lib.hid (HS.out.push #[.int .i64 x1, .int .i64 y1])
  obtain ⟨wb1, hw⟩ : ∃ W, wa1.alloc (.cells #[.int .i64 x1, .int .i64 y1] 36) = W := ⟨_, rfl⟩
  obtain ⟨L1, hL⟩ : ∃ W, wa1.heap.size = W := ⟨_, rfl⟩
  rw [hw] at HS
  rw [hL] at HS
  rw [hw, hL]
  clear hw hL
  go_wp2_with ((refine wpList_load_has ?_ 59 (.tmp 9) ?_ T ?_ _ _ _ HS.out.box Try.underlying59 ?_ HTI.out ?_; rfl; rfl; rfl; rfl))
  refine (C2.out _ HS.out.inn HS.out.prs).mono ?_
  rintro e wa2 ⟨rfl, hb⟩
  replace HS := Lib.hid (HS.out.next hb)
  clear hb C2
  try simp only
  go_upto_region 7 with (fail)
  replace HS := Lib.hid (HS.out.push #[.int .i64 x1, .int .i64 y1])
  obtain ⟨wb2, hw⟩ : ∃ W, wa2.alloc (.cells #[.int .i64 x1, .int .i64 y1] 36) = W := ⟨_, rfl⟩
  obtain ⟨L2, hL⟩ : ∃ W, wa2.heap.size = W := ⟨_, rfl⟩
  rw [hw] at HS
  rw [hL] at HS
  rw [hw, hL]
  clear hw hL
  go_wp2_with ((refine wpList_load_has ?_ 59 (.tmp 9) ?_ T ?_ _ _ _ HS.out.box Try.underlying59 ?_ HTI.out ?_; rfl; rfl; rfl; rfl))
  refine (C3.out _ HS.out.inn (HS.out.out HP1.out)).mono ?_
  rintro e wa3 ⟨rfl, hb⟩
  replace HS := Lib.hid (HS.out.next hb)
  clear hb C3
  try simp only
  go_upto_region 8 with (fail)
  replace HS := Lib.hid (HS.out.push #[.int .i64 x2, .int .i64 y2])
  obtain ⟨wb3, hw⟩ : ∃ W, wa3.alloc (.cells #[.int .i64 x2, .int .i64 y2] 36) = W := ⟨_, rfl⟩
  obtain ⟨L3, hL⟩ : ∃ W, wa3.heap.size = W := ⟨_, rfl⟩
  rw [hw] at HS
  rw [hL] at HS
  rw [hw, hL]
  clear hw hL
  go_wp2_with ((refine wpList_load_has ?_ 59 (.tmp 9) ?_ T ?_ _ _ _ HS.out.box Try.underlying59 ?_ HTI.out ?_; rfl; rfl; rfl; rfl))
  refine (C4.out _ HS.out.inn (HS.out.out HP1.out)).mono ?_
  rintro e wa4 ⟨rfl, hb⟩
  replace HS := Lib.hid (HS.out.next hb)
  clear hb C4
  try simp only
  go_upto_region 9 with (fail)
  replace HS := Lib.hid (HS.out.push #[.int .i64 x2, .int .i64 y2])
  obtain ⟨wb4, hw⟩ : ∃ W, wa4.alloc (.cells #[.int .i64 x2, .int .i64 y2] 36) = W := ⟨_, rfl⟩
  obtain ⟨L4, hL⟩ : ∃ W, wa4.heap.size = W := ⟨_, rfl⟩
  rw [hw] at HS
  rw [hL] at HS
  rw [hw, hL]
  clear hw hL
  have hT9 := HS.out.lt
  go_upto_region 10 with (first
    | (refine wpList_load_has ?_ 59 (.tmp 9) ?_ T ?_ _ _ _ HS.out.box Try.underlying59 ?_ HTI.out ?_; rfl; rfl; rfl; rfl)
    | (refine wpList_store_has ?_ 59 (.tmp 21) (.tmp 67) ?_ wb4.heap.size ?_ t.cells ?_ _ _ (Has.new wb4 _ _) HTI.out ?_ ?_ ?_; rfl; rfl; rfl; rfl; rfl; rfl; intro w5 hh5 hl5))
  try simp only [Act.put]
  have hb5 : Below wb4.heap.size wb4 w5 := ((Below.refl _ _).alloc (Nat.le_refl _) _).trans (hl5.below (fun k hk => by omega) (by simp))
  have HB5 := Lib.hid hb5
  obtain ⟨U, hU⟩ : ∃ U, wb4.heap.size = U := ⟨_, rfl⟩
  have HX5 : Hid (t.Box w5 U) := Lib.hid (by rw [← hU]; exact hh5)
  have HUW := Lib.hid hU
  rw [hU]
  clear hU hb5 hh5 hl5 hT9
  have r1 : w5.cell? ⟨U, 1, none⟩ = some (.int .i64 t.kind) := HX5.out.cell 1
  have rf := HX5.out.free
  have rl := HX5.out.lt
  go_upto_region 11 with (fail)
  clear r1 rf rl
  have HU : Hid (Has (w5.setCell ⟨U, 1, none⟩ (.int .i64 (kd % 8))) U ({ t with kind := kd % 8 } : Ty).cells 59) := Lib.hid (HX5.out.put 1 (.int .i64 (kd % 8)))
  replace HS := Lib.hid (HS.out.next (HB5.out.setCell (p := ⟨U, 1, none⟩) (Nat.le_of_eq HUW.out) (.int .i64 (kd % 8))))
  obtain ⟨w6, hw6⟩ : ∃ W, w5.setCell ⟨U, 1, none⟩ (.int .i64 (kd % 8)) = W := ⟨_, rfl⟩
  rw [hw6] at HU HS ⊢
  clear hw6 HX5 HB5 HUW
  go_wp2_with ((refine wpList_load_has ?_ 59 (.tmp 21) ?_ U ?_ _ _ _ HU.out Try.underlying59 ?_ HTI.out ?_; rfl; rfl; rfl; rfl))
  refine (C5.out _ HS.out.inn HS.out.prs).mono ?_
  rintro e wa5 ⟨rfl, hb⟩
  replace HU := Lib.hid (HU.out.below hb HU.out.lt)
  replace HS := Lib.hid (HS.out.next hb)
  clear hb C5
  try simp only
  go_upto_region 12 with (fail)
  replace HU := Lib.hid (HU.out.alloc (.cells #[.int .i64 x3, .int .i64 y3] 36))
  replace HS := Lib.hid (HS.out.push #[.int .i64 x3, .int .i64 y3])
  obtain ⟨wb5, hw⟩ : ∃ W, wa5.alloc (.cells #[.int .i64 x3, .int .i64 y3] 36) = W := ⟨_, rfl⟩
  obtain ⟨L5, hL⟩ : ∃ W, wa5.heap.size = W := ⟨_, rfl⟩
  rw [hw] at HS HU
  rw [hL] at HS
  rw [hw, hL]
  clear hw hL
  go_wp2_with ((refine wpList_load_has ?_ 59 (.tmp 21) ?_ U ?_ _ _ _ HU.out Try.underlying59 ?_ HTI.out ?_; rfl; rfl; rfl; rfl))
  refine (C6.out _ HS.out.inn HS.out.prs).mono ?_
  rintro e wa6 ⟨rfl, hb⟩
  replace HU := Lib.hid (HU.out.below hb HU.out.lt)
  replace HS := Lib.hid (HS.out.next hb)
  clear hb C6
  try simp only
  go_upto_region 13 with (fail)
  replace HU := Lib.hid (HU.out.alloc (.cells #[.int .i64 x3, .int .i64 y3] 36))
  replace HS := Lib.hid (HS.out.push #[.int .i64 x3, .int .i64 y3])
  obtain ⟨wb6, hw⟩ : ∃ W, wa6.alloc (.cells #[.int .i64 x3, .int .i64 y3] 36) = W := ⟨_, rfl⟩
  obtain ⟨L6, hL⟩ : ∃ W, wa6.heap.size = W := ⟨_, rfl⟩
  rw [hw] at HS HU
  rw [hL] at HS
  rw [hw, hL]
  clear hw hL
  have q10 := (HS.out.ls (L1, #[.int .i64 x1, .int .i64 y1]) (by simp)).cell 0
  have q11 := (HS.out.ls (L1, #[.int .i64 x1, .int .i64 y1]) (by simp)).cell 1
  have q20 := (HS.out.ls (L2, #[.int .i64 x1, .int .i64 y1]) (by simp)).cell 0
  have q21 := (HS.out.ls (L2, #[.int .i64 x1, .int .i64 y1]) (by simp)).cell 1
  have q30 := (HS.out.ls (L3, #[.int .i64 x2, .int .i64 y2]) (by simp)).cell 0
  have q31 := (HS.out.ls (L3, #[.int .i64 x2, .int .i64 y2]) (by simp)).cell 1
  have q40 := (HS.out.ls (L4, #[.int .i64 x2, .int .i64 y2]) (by simp)).cell 0
  have q41 := (HS.out.ls (L4, #[.int .i64 x2, .int .i64 y2]) (by simp)).cell 1
  have q50 := (HS.out.ls (L5, #[.int .i64 x3, .int .i64 y3]) (by simp)).cell 0
  have q51 := (HS.out.ls (L5, #[.int .i64 x3, .int .i64 y3]) (by simp)).cell 1
  have q60 := (HS.out.ls (L6, #[.int .i64 x3, .int .i64 y3]) (by simp)).cell 0
  have q61 := (HS.out.ls (L6, #[.int .i64 x3, .int .i64 y3]) (by simp)).cell 1
  simp only [List.getElem?_toArray, List.getElem?_cons_succ, List.getElem?_cons_zero] at q10 q11 q20 q21 q30 q31 q40 q41 q50 q51 q60 q61
  have HBE := Lib.hid HS.out.below
  clear HS HU
  go_wp2_with (first | (go_at_call 16; refine (awake22_any _).mono ?_; rintro e w9 ⟨rfl, hb9⟩))
  go_ret
  exact ⟨rfl, HBE.out.trans (hb9.mono HBE.out.size)⟩

set_option maxRecDepth 100000 in
theorem lifted (os : Os) (started : os.Started) (H : Type) (enc : TypeId × Value → H) :
    ReturnsInHanded {} Try.checked os 10 .any (Rows.excessIndexedSpec.pre6 enc Try.prog Try.f10 Rows.excessIndexedRow.domain false) (Rows.excessIndexedSpec.post enc Try.prog Try.f10 false true false false) := by
  refine returnsInHanded_of_change (C := Try.checked) own started (by kernel_rfl) Try.func10
    (ChangeSpec.witness6 (enc := enc) (C := Try.checked) false ⟨#[], #[.slice none 0 0, .slice none 0 0, .int .i64 0, .int .u8 0], []⟩ 8 (by kernel_rfl) (by kernel_rfl) (by kernel_rfl) (by kernel_rfl)) ?_
  intro W base args ds gs before hval0 hW hcnd _
  have hval : ∀ (j : Nat) t v, Try.f10.params[j]? = some t → args[j]? = some v → Value.okWide Try.prog W .any base t v := hval0
  have hW' := hW
  obtain ⟨p, q, hA0, hV, rfl, hfz, hnd⟩ := hW
  have hA : DataW.TrodAll enc Try.prog W 0 (fun _ => true) true Try.f10.params.toList args.toList ds p := hA0
  rw [Try.params10] at hA hval
  obtain ⟨v0, vs0, d0, ds0, p0, q0, hargs, rfl, rfl, h0, r0⟩ := trodAll_cons hA
  obtain ⟨v1, vs1, d1, ds1, p1, q1, rfl, rfl, rfl, h1, r1⟩ := trodAll_cons r0
  obtain ⟨v2, vs2, d2, ds2, p2, q2, rfl, rfl, rfl, h2, r2⟩ := trodAll_cons r1
  obtain ⟨v3, vs3, d3, ds3, p3, q3, rfl, rfl, rfl, h3, r3⟩ := trodAll_cons r2
  obtain ⟨rfl, rfl, rfl⟩ := trodAll_nil r3
  obtain rfl : args = #[v0, v1, v2, v3] := by cases args; simp_all
  obtain ⟨rfl, rfl⟩ := trodVars_none hV
  have k0 := h0
  have lt0 : ∀ x ∈ p0, x.block < W.heap.size := by obtain ⟨m, hm⟩ := k0; exact DataW.trod_lt m _ _ _ hm
  obtain ⟨a0, len0, cap0, rfl⟩ := okWide_slice Try.underlying22 (hval 0 22 v0 rfl rfl)
  have r100 : Rd22 W [.slice a0 len0 cap0] := by obtain ⟨fuel, hf⟩ := h0; exact rd22 hf
  have k1 := h1
  have lt1 : ∀ x ∈ p1, x.block < W.heap.size := by obtain ⟨m, hm⟩ := k1; exact DataW.trod_lt m _ _ _ hm
  obtain ⟨a1, len1, cap1, rfl⟩ := okWide_slice Try.underlying40 (hval 1 40 v1 rfl rfl)
  have r101 : Rd40 W [.slice a1 len1 cap1] := by obtain ⟨fuel, hf⟩ := h1; exact rd40 hf
  have k2 := h2
  have lt2 : ∀ x ∈ p2, x.block < W.heap.size := by obtain ⟨m, hm⟩ := k2; exact DataW.trod_lt m _ _ _ hm
  obtain ⟨a2, rfl⟩ := okWide_int Try.underlying3 (hval 2 3 v2 rfl rfl)
  have r102 : Rd3 W [.int .i64 a2] := by obtain ⟨fuel, hf⟩ := h2; exact rd3 hf
  have k3 := h3
  have lt3 : ∀ x ∈ p3, x.block < W.heap.size := by obtain ⟨m, hm⟩ := k3; exact DataW.trod_lt m _ _ _ hm
  obtain ⟨a3, rfl⟩ := okWide_int Try.underlying5 (hval 3 5 v3 rfl rfl)
  have r103 : Rd5 W [.int .u8 a3] := by obtain ⟨fuel, hf⟩ := h3; exact rd5 hf
  clear hA0 hval0
  refine (walk _ _ _ _ W r100 r101 r102 r103).mono fun e W' ⟨he, bel⟩ => ?_
  subst he
  exact ⟨_, rfl, _, _, _, [], _, [], hW', trodAll_mk1 (shut_bool Try.underlying4 _), (trodAll_cons_mk (Below.trod laidOut (by kernel_rfl) (of_decide_eq_true (by kernel_rfl)) k0 bel lt0) (trodAll_cons_mk (Below.trod laidOut (by kernel_rfl) (of_decide_eq_true (by kernel_rfl)) k1 bel lt1) (trodAll_cons_mk (Below.trod laidOut (by kernel_rfl) (of_decide_eq_true (by kernel_rfl)) k2 bel lt2) (trodAll_cons_mk (Below.trod laidOut (by kernel_rfl) (of_decide_eq_true (by kernel_rfl)) k3 bel lt3) trodAll_mk0)))), rfl, bel.frame _, fun h => by cases h⟩

theorem over : Rows.excessIndexedRow.holds Try.pinned (OpenSpec.ofChange Rows.excessIndexedSpec) :=
  OpenClaim.holds_of_wide 10 Try.f10 rfl rfl rfl rfl rfl rfl rfl ⟨rfl, rfl, rfl, rfl, rfl⟩ rfl rfl rfl rfl rfl (by kernel_rfl) Try.func10 (by kernel_rfl)
    (of_decide_eq_true (by kernel_rfl)) (by unfold Func.isWrapper; first | (rw [if_pos (by decide +kernel)]; kernel_rfl) | (rw [if_neg (by decide +kernel)]; exact ⟨rfl, rfl⟩))
    (fun os started H enc _ => lifted os started H enc)

/-- the statement -/
theorem proved : Rows.ExcessIndexedSaid := over
#print axioms proved
end Go.Proofs.Ytigoeaidlgofoaa.excessIndexed
