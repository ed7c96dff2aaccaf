/- contract.Divide among one participant, who takes all. cession.compare. cession.parts, cession.add. proportional.Cede at the example: half of 100. -/
import Derived.Test.YtbeikfopneeodaaGreatMt17
import Derived.Test.YtbeikfopneeodaaGreatMt09
import Derived.Laws.OwnMore
import Derived.Test.YtbeikfopneeodaaGreatMt15
import Derived.Test.YtbeikfopneeodaaGreatMt12
import Derived.Deep.RegionHeld3
namespace Go.Proofs.YtbeikfopneeodaaGreat
open Go.RowKit
set_option linter.unusedVariables false

theorem Has.own1 {w : World} {base X : Nat} {v : Value} {e : TypeId} (h : Has w X #[v] e) (hb : base ≤ X) : w.ownsRow base e 1 (.slice (some ⟨X, 0, none⟩) 1 1) 1 [v] :=
  ⟨rfl, .inr ⟨X, 1, #[v], rfl, hb, h, Nat.le_refl _, by unfold maxLen; omega, rfl, rfl⟩⟩

set_option maxRecDepth 100000 in
set_option maxHeartbeats 1000000 in
theorem shares_one (b c : Nat) (w : World) (h : PartAt w w.heap.size b) : Calls Tryz.prog 179 #[.slice (some ⟨b, 0, none⟩) 1 c] w
    fun e w' => ∃ S, e = .returned (.slice (some ⟨S, 0, none⟩) 1 1) ∧ Has w' S #[.int .i64 1000000] 3 ∧ w.heap.size ≤ S ∧ Below w.heap.size w w' := by
  obtain ⟨b', o', e', had, hc0, hc1⟩ := Pairs.get h (show 0 < 1 by omega)
  simp only [Option.some.injEq, Addr.mk.injEq, and_true] at e'
  obtain ⟨rfl, rfl⟩ := e'
  simp only [Nat.zero_mul, Nat.add_zero, Nat.zero_add] at hc0 hc1
  have hne : b ≠ w.heap.size := by omega
  have hmk := mk_int1
  clear h
  go_enter Tryz.func179, Tryz.ntmps179
  go_wp2_with fail
  clear hmk
  refine wp_loop_rounds 2 ?_
  rw [rounds_succ]
  go_wp2_with fail
  rw [rounds_succ]
  go_wp2_with fail
  go_ret
  exact ⟨w.heap.size, rfl, (Has.new w _ _).alloc _, Nat.le_refl _, ((Below.refl _ _).alloc (Nat.le_refl _) _).alloc (by simp) _⟩

/-- the weights of one participant who takes all -/
def allW (i : Nat) : Int := if i = 0 then 0 else 1000000
theorem allW_sum : Ex.psum allW 2 = 1000000 := by decide
theorem allW_q (a : Int) : Sp.q a 1000000 allW 0 = 0 ∧ Sp.q a 1000000 allW 1 = a := by
  constructor
  · show a * 0 / 1000000 = 0
    simp
  · show a * 1000000 / 1000000 = a
    exact Int.mul_ediv_cancel a (by omega)
theorem allW_fair {a : Int} {f : Nat → Int} (h : Sp.Fair a 1000000 allW 2 f) : f 0 = 0 ∧ f 1 = a := by
  have hs : Ex.psum (Sp.q a 1000000 allW) 2 = a := by
    show 0 + Sp.q a 1000000 allW 0 + Sp.q a 1000000 allW 1 = a
    rw [(allW_q a).1, (allW_q a).2]
    omega
  exact ⟨by rw [h.exact hs 0 (by omega), (allW_q a).1], by rw [h.exact hs 1 (by omega), (allW_q a).2]⟩
theorem perr_aw : Ty.perr 1 (fun _ => 2) (fun _ => 1000000) = 0 := by decide +kernel

set_option maxRecDepth 100000 in
set_option maxHeartbeats 2000000 in
theorem cdivide_one (a : Int) (b c : Nat) (w : World) (ha0 : 0 ≤ a) (ha1 : a ≤ 17592186044416) (h : PartAt w w.heap.size b) : Calls Tryz.prog 137 #[.int .i64 a, .slice (some ⟨b, 0, none⟩) 1 c] w
    fun e w' => ∃ S, e = .returned (.tuple #[.slice (some ⟨S, 0, none⟩) 2 2, .int .i64 0]) ∧ w'.cell? ⟨S, 0, none⟩ = some (.int .i64 0) ∧ w'.cell? ⟨S, 1, none⟩ = some (.int .i64 a) ∧ S < w'.heap.size ∧ w.heap.size ≤ S ∧ Below w.heap.size w w' := by
  have HP := Lib.hid h
  have HV : Hid (Am.validB a = true) := Lib.hid (by unfold Am.validB; rw [Bool.and_eq_true, decide_eq_true_iff, decide_eq_true_iff]; omega)
  have CP := Lib.hid (parts_any (some ⟨b, 0, none⟩) 1 c (fun _ => 2) (fun _ => 1000000) w (by omega) h)
  rw [perr_aw] at CP
  obtain ⟨i0, hi0, hz0, hz1, hz2⟩ := info_parts i64_info
  have HI := Lib.hid hi0
  have HZ0 := Lib.hid hz0
  have HZ1 := Lib.hid hz1
  have HZ2 := Lib.hid hz2
  clear hi0 hz0 hz1 hz2 h
  go_enter Tryz.func137, Tryz.ntmps137
  go_wp2_with fail
  refine CP.out.mono ?_
  rintro e w1 ⟨rfl, hb⟩
  replace HP := Lib.hid (HP.out.later hb)
  have HB := Lib.hid hb
  clear hb CP
  go_wp2_with fail
  refine (valid_any _ _).mono ?_
  rintro e w2 ⟨rfl, rfl⟩
  rw [HV.out]
  go_wp2_with fail
  refine (shares_one b c _ (HP.out.later ((Below.refl _ _).alloc (Nat.le_refl _) _))).mono ?_
  rintro e w3 ⟨S, rfl, hS, hle, hb⟩
  have HX : Hid (Has w3 w1.heap.size #[.int .i64 1000000] 3) := Lib.hid ((Has.new w1 _ _).below hb (by simp))
  have HS := Lib.hid hS
  have hs1 := HB.out.size
  replace HB : Hid (Below w.heap.size w w3) := Lib.hid ((HB.out.alloc hs1 _).trans (hb.mono (by simp; omega)))
  have hs3 := HB.out.size
  obtain ⟨X, hX⟩ : ∃ X, w1.heap.size = X := ⟨_, rfl⟩
  rw [hX] at HX hs1
  rw [hX]
  have hSl := hS.lt
  clear hb hS hX hle
  have HO : Hid (w3.ownsRow w.heap.size 3 1 (.slice (some ⟨X, 0, none⟩) 1 1) 1 [.int .i64 1000000]) := Lib.hid (HX.out.own1 hs1)
  have HN : Hid (∀ j u, ([.int .i64 1000000] : List Value)[j]? = some u → w3.cell? ((⟨S, 0, none⟩ : Addr).add j) = some u) := Lib.hid fun j u hu => by
    rw [Go.WideShapes.add_plain, Nat.zero_add, HS.out.cell]
    simpa using hu
  go_upto_region 7 with ((at_builtin; refine wpList_append_lies _ rfl _ _ 22 rfl w.heap.size 3 i0 _ 1 8 Tryz.underlying22 HI.out HZ0.out HZ1.out HZ2.out rfl (by omega) _ 1 [.int .i64 1000000] rfl HO.out ⟨S, 0, none⟩ 1 1 [.int .i64 1000000] rfl rfl HN.out (by simp [Value.oneCell']) (by omega) (by unfold maxLen; omega) (by omega) hs3 w3.heap.size rfl ?_; intro gg cp w4 hown hgrow hat hlt; clear hat hlt))
  have hOw : Own w4 w.heap.size gg 2 cp 1 3 (fun _ => .int .i64 1000000) := Own.of_row hown (fun j hj => by
    have hj : j < 2 := by omega
    match j, hj with
    | 0, _ | 1, _ => rfl)
  have hlen := hOw.len
  have g0 : w4.cell? ⟨gg, 0, none⟩ = some (.int .i64 1000000) := hOw.cell (by omega)
  have g1 : w4.cell? ⟨gg, 1, none⟩ = some (.int .i64 1000000) := hOw.cell (by omega)
  have gf := hOw.free
  have gl := hOw.lt
  have gb := hOw.base_le
  have HB4 : Hid (Below w.heap.size w w4) := Lib.hid (HB.out.grown hgrow hs3 (fun k hk => by
    obtain ⟨_, _, hg⟩ := own_form HO.out hk
    exact hg))
  have hc1 : 2 ≤ cp := hlen.1
  have hc2 : cp ≤ 9223372036854775807 := hlen.2
  have hc3 : (1 : Int) ≤ cp := by omega
  have hc4 : cp ≠ 1 := by omega
  clear hown hgrow hOw hlen HX HS HO HN hs1 hs3 hSl HB
  go_wp2_with fail
  refine wp_loop_rounds 2 ?_
  rw [rounds_succ]
  go_wp2_with fail
  rw [rounds_succ]
  have HW : Hid (∀ j, j < 2 → (w4.setCell ⟨gg, 0, none⟩ (.int .i64 0)).cell? ⟨gg, j, none⟩ = some (.int .i64 (allW j))) := Lib.hid fun j hj => by
    match j, hj with
    | 0, _ => exact World.cell?_setCell_same' w4 ⟨gg, 0, none⟩ _ (by rw [g0]; exact rfl)
    | 1, _ =>
      rw [World.cell?_setCell_other w4 ⟨gg, 0, none⟩ ⟨gg, 1, none⟩ _ (fun e => by injection e with _ e; omega), g1]
      rfl
  replace HB4 : Hid (Below w.heap.size w (w4.setCell ⟨gg, 0, none⟩ (.int .i64 0))) := Lib.hid (HB4.out.setCell (p := ⟨gg, 0, none⟩) gb _)
  have hgl : gg < (w4.setCell ⟨gg, 0, none⟩ (.int .i64 0)).heap.size := by simpa using gl
  obtain ⟨w5, hw5⟩ : ∃ W, w4.setCell ⟨gg, 0, none⟩ (.int .i64 0) = W := ⟨_, rfl⟩
  rw [hw5] at HW HB4 hgl ⊢
  clear hw5 g0 g1 gf gl
  have HNU : Hid (Nums w5 w5.heap.size (some ⟨gg, 0, none⟩) 2 allW) := Lib.hid fun _ => ⟨_, rfl, hgl, fun j hj => by rw [Go.WideShapes.add_plain, Nat.zero_add]; exact HW.out j hj⟩
  have CS := Lib.hid (split_fine (some ⟨gg, 0, none⟩) 2 cp allW a w5 (by omega) (by omega) ha0 ha1 (fun i hi => by unfold allW; split <;> omega) (by rw [allW_sum]; omega) HNU.out)
  rw [allW_sum] at CS
  go_wp2_with fail
  refine CS.out.mono ?_
  rintro e w6 ⟨S2, f, rfl, hr, hle, hf, hb⟩
  obtain ⟨e0, e1⟩ := allW_fair hf
  have s0 := hr.cell 0 (by omega)
  have s1 := hr.cell 1 (by omega)
  rw [e0] at s0
  rw [e1] at s1
  have S0 := Lib.hid s0
  have S1 := Lib.hid s1
  have hsl := hr.lt
  have hs5 := HB4.out.size
  replace HB4 := Lib.hid (HB4.out.trans (hb.mono hs5))
  clear hr hf hb CS e0 e1 s0 s1 HNU HW
  go_wp2_with fail
  go_ret2
  exact ⟨S2, rfl, S0.out, S1.out, hsl, by omega, HB4.out⟩
end Go.Proofs.YtbeikfopneeodaaGreat
namespace Go.Proofs.YtbeikfopneeodaaGreat
open Go.RowKit
set_option linter.unusedVariables false

/-- a share -/
structure Sh where
  loss : Int
  treaty : Int
  party : Int
  amt : Int
  paid : Int
deriving DecidableEq, Inhabited
abbrev Sh.enc (e : Sh) : List Value := [.int .i64 e.loss, .int .i64 e.treaty, .int .i64 e.party, .int .i64 e.amt, .int .i64 e.paid]
def Sh.cmp (a b : Sh) : Int := orL [Lib.compareInt a.loss b.loss, Lib.compareInt a.treaty b.treaty, Lib.compareInt a.party b.party]

set_option maxRecDepth 100000 in
set_option maxHeartbeats 2000000 in
theorem shcmp_any (a b : Sh) (w : World) : Calls Tryz.prog 177 #[.agg a.enc.toArray, .agg b.enc.toArray] w fun e w' => e = .returned (.int .i64 (Sh.cmp a b)) ∧ ∃ q os', w' = Go.Sort.grow (w.drewN q) os' := by
  have HE : Hid (Sh.cmp a b = orL [Lib.compareInt a.loss b.loss, Lib.compareInt a.treaty b.treaty, Lib.compareInt a.party b.party]) := Lib.hid rfl
  have CC := Lib.hid (fun x y (w : World) => Tryz.cmp_Compare_int x y w)
  go_enter Tryz.func177, Tryz.ntmps177
  go_wp2_with fail
  obtain ⟨c1, h1⟩ : ∃ c, Lib.compareInt a.loss b.loss = c := ⟨_, rfl⟩
  obtain ⟨c2, h2⟩ : ∃ c, Lib.compareInt a.treaty b.treaty = c := ⟨_, rfl⟩
  obtain ⟨c3, h3⟩ : ∃ c, Lib.compareInt a.party b.party = c := ⟨_, rfl⟩
  rw [h1, h2, h3] at HE
  have C1 := CC.out a.loss b.loss
  have C2 := CC.out a.treaty b.treaty
  have C3 := CC.out a.party b.party
  rw [h1] at C1
  rw [h2] at C2
  rw [h3] at C3
  replace C1 := Lib.hid C1
  replace C2 := Lib.hid C2
  replace C3 := Lib.hid C3
  clear h1 h2 h3 CC
  have HA := Lib.hid ((Has.new w a.enc.toArray 230).alloc (.cells b.enc.toArray 230))
  have HB := Lib.hid (Has.new' (w.alloc (.cells a.enc.toArray 230)) (w.heap.size + 1) b.enc.toArray 230 (by simp))
  obtain ⟨W, hW⟩ : ∃ W, (w.alloc (.cells a.enc.toArray 230)).alloc (.cells b.enc.toArray 230) = W := ⟨_, rfl⟩
  rw [hW] at HA HB ⊢
  have HWW := Lib.hid hW
  obtain ⟨a0, a1, a2⟩ := HA.out.rules
  obtain ⟨b0, b1, b2⟩ := HB.out.rules
  obtain ⟨G, hG⟩ : ∃ G, w.heap.size = G := ⟨_, rfl⟩
  rw [hG] at a0 a1 a2 b0 b1 b2
  rw [hG]
  clear hW hG
  refine wp_region_still_tail 15 (by kernel_rfl) (by kernel_rfl) ?_
  simp only [List.take_succ_cons, List.take_zero, List.drop_succ_cons, List.drop_zero]
  repeat (first | still_step | (refine wpStill_step (fun K hK => ?_); go_simp; (with_reducible refine ⟨_, C1.out _, hK _ ?_⟩); clear hK K) | (refine wpStill_step (fun K hK => ?_); go_simp; (with_reducible refine ⟨_, C2.out _, hK _ ?_⟩); clear hK K) | (refine wpStill_step (fun K hK => ?_); go_simp; (with_reducible refine ⟨_, C3.out _, hK _ ?_⟩); clear hK K))
  try refine wpStill_nil ?_
  change wpList _ _ _ _ _ W.drew
  clear C1 C2 C3
  have HO : Hid (Has (W.drew.alloc (.cells #[.int .i64 c1, .int .i64 c2, .int .i64 c3] 3)) W.heap.size #[.int .i64 c1, .int .i64 c2, .int .i64 c3] 3) := Lib.hid (Has.new' W.drew W.heap.size _ _ rfl)
  obtain ⟨V, hV⟩ : ∃ V, W.drew = V := ⟨_, rfl⟩
  obtain ⟨Q, hQ⟩ : ∃ Q, W.heap.size = Q := ⟨_, rfl⟩
  have hVs : V.heap.size = Q := by rw [← hV]; exact hQ
  rw [hV, hQ] at HO
  rw [hV]
  have HV := Lib.hid hV
  have HVS := Lib.hid hVs
  clear hV hQ hVs
  go_wp2_with fail
  rw [HVS.out]
  refine (or_any Q 3 3 [c1, c2, c3] _ rfl (by omega) (fun j hj => ?_)).mono ?_
  · rw [HO.out.cell]
    have hj : j < 3 := hj
    match j, hj with
    | 0, _ | 1, _ | 2, _ => rfl
  rintro e w' ⟨rfl, rfl⟩
  rw [← HE.out]
  go_wp2_with fail
  go_ret
  exact ⟨rfl, 1, _, by rw [← HV.out, ← HWW.out]; exact grow3 _ _ _ _⟩
end Go.Proofs.YtbeikfopneeodaaGreat
namespace Go.Proofs.YtbeikfopneeodaaGreat
open Go.RowKit
set_option linter.unusedVariables false

def two (x y : Int) (i : Nat) : Int := if i = 0 then x else y
theorem two_sum (x y : Int) : Ex.psum (two x y) 2 = x + y := by
  show 0 + x + y = _
  omega

set_option maxRecDepth 100000 in
set_option maxHeartbeats 1000000 in
theorem parts_two (a x y : Int) (S c : Nat) (w : World) (ha0 : 0 ≤ a) (ha1 : a ≤ 17592186044416) (hx0 : 0 ≤ x) (hx1 : x ≤ 17592186044416) (hy0 : 0 ≤ y) (hy1 : y ≤ 17592186044416) (hm : 0 < max x y) (h0 : w.cell? ⟨S, 0, none⟩ = some (.int .i64 x)) (h1 : w.cell? ⟨S, 1, none⟩ = some (.int .i64 y)) (hS : S < w.heap.size) :
    Calls Tryz.prog 174 #[.int .i64 a, .slice (some ⟨S, 0, none⟩) 2 c] w (SplPost a (x + y) (two x y) 2 w) := by
  have HN : Hid (Nums w w.heap.size (some ⟨S, 0, none⟩) 2 (two x y)) := Lib.hid fun _ => ⟨_, rfl, hS, fun j hj => by
    rw [Go.WideShapes.add_plain, Nat.zero_add]
    match j, hj with
    | 0, _ => exact h0
    | 1, _ => exact h1⟩
  have CS := Lib.hid (split_fine (some ⟨S, 0, none⟩) 2 c (two x y) a w (by omega) (by omega) ha0 ha1 (fun i hi => by unfold two; split <;> omega) (by rw [two_sum]; omega) HN.out)
  rw [two_sum] at CS
  have CM := Lib.hid (Tryz.slices_Max_int S 0 2 c [x, y] w (by omega) (by simp) (by omega) (fun j hj => by
    rw [Nat.zero_add]
    have hj : j < 2 := hj
    match j, hj with
    | 0, _ => exact h0
    | 1, _ => exact h1))
  have hmx : Lib.maxOf ([x, y].take 2) = max x y := by simp [Lib.maxOf]
  rw [hmx] at CM
  obtain ⟨m, hmm⟩ : ∃ m, max x y = m := ⟨_, rfl⟩
  rw [hmm] at CM hm
  have hm0 : (m == 0) = false := by rw [beq_eq_false_iff_ne]; omega
  clear hmm hmx h0 h1
  go_enter Tryz.func174, Tryz.ntmps174
  go_wp2_with fail
  refine CM.out.mono ?_
  rintro e w1 ⟨rfl, rfl⟩
  go_wp2_with fail
  refine CS.out.mono ?_
  rintro e w1 ⟨g, f, rfl, hr, hg, hf, hb⟩
  have HR := Lib.hid hr
  have HF := Lib.hid hf
  have HB := Lib.hid hb
  clear hr hf hb
  go_wp2_with fail
  go_ret2
  exact ⟨g, f, rfl, HR.out, hg, HF.out, HB.out⟩
end Go.Proofs.YtbeikfopneeodaaGreat
namespace Go.Proofs.YtbeikfopneeodaaGreat
open Go.RowKit
set_option linter.unusedVariables false

set_option maxRecDepth 100000 in
set_option maxHeartbeats 1000000 in
theorem fixed_aw (b c : Nat) (s : Int) (w : World) : Calls Tryz.prog 379 #[.agg (awC b c), .int .i64 s] w fun e w' => e = .returned (.agg #[.int .i64 500000, .int .i64 500000, .int .i64 0]) ∧ Below w.heap.size w w' := by
  have x7 : ∀ W, Has W w.heap.size (awC b c) 490 → W.cell? ⟨w.heap.size, 7, none⟩ = some (.int .i64 500000) := fun W h => h.cell 7
  have y7 := x7 _ ((Has.new w (awC b c) 490).alloc (.cells #[.int .i64 0, .int .i64 0, .int .i64 0] 301))
  clear x7
  go_enter Tryz.func379, Tryz.ntmps379
  go_wp2_with fail
  refine bodyPost_ret (results_cell_row rfl _ _ (w.heap.size + 1) _ #[.int .i64 500000, .int .i64 500000, .int .i64 0] _ _ ?_ (Has.new' _ _ _ _ (by simp)) Tryz.underlying301 rfl arr3_info) rfl ?_
  · rfl
  · exact ⟨rfl, (by (repeat' (first | (with_reducible exact Below.refl _ _) | (with_reducible refine Below.setCell ?_ ?_ _) | (with_reducible refine below_drewN ?_ _) | (with_reducible refine Below.drew ?_) | (with_reducible refine Below.alloc ?_ ?_ _))) <;> (first | omega | (simp <;> omega)))⟩

set_option maxRecDepth 100000 in
set_option maxHeartbeats 1000000 in
theorem weights_aw (b c : Nat) (w : World) (h : PartAt w w.heap.size b) : Calls Tryz.prog 378 #[.agg (awC b c), .int .i64 0] w
    fun e w' => ∃ S, e = .returned (.tuple #[.slice (some ⟨S, 0, none⟩) 3 3, .int .i64 0]) ∧ Has w' S #[.int .i64 500000, .int .i64 500000, .int .i64 0] 301 ∧ Below w.heap.size w w' := by
  have HP := Lib.hid h
  have HTI := Lib.hid (awC_info (b := b) (c := c) ty_info rfl)
  have HB0 := Lib.hid (Has.new w (awC b c) 54)
  clear h
  go_enter Tryz.func378, Tryz.ntmps378
  go_wp2_with (refine wpList_load_has ?_ 54 (.tmp 2) ?_ w.heap.size ?_ _ (awC b c) _ HB0.out Tryz.underlying54 ?_ HTI.out ?_; rfl; rfl; rfl; rfl)
  refine (awvalid b c _ (HP.out.later (by (repeat' (first | (with_reducible exact Below.refl _ _) | (with_reducible refine Below.setCell ?_ ?_ _) | (with_reducible refine below_drewN ?_ _) | (with_reducible refine Below.drew ?_) | (with_reducible refine Below.alloc ?_ ?_ _))) <;> (first | omega | (simp <;> omega))))).mono ?_
  rintro e w1 ⟨rfl, hb⟩
  have HW : Hid (Below w.heap.size w w1) := Lib.hid (Below.trans (b := (w.alloc (.cells (awC b c) 54))) (by (repeat' (first | (with_reducible exact Below.refl _ _) | (with_reducible refine Below.setCell ?_ ?_ _) | (with_reducible refine below_drewN ?_ _) | (with_reducible refine Below.drew ?_) | (with_reducible refine Below.alloc ?_ ?_ _))) <;> (first | omega | (simp <;> omega))) (hb.mono (by simp)))
  replace HB0 := Lib.hid (HB0.out.below hb (by simp))
  have x1 : w1.cell? ⟨w.heap.size, 1, none⟩ = some (.int .i64 1) := HB0.out.cell 1
  obtain ⟨G, hG⟩ : ∃ G, w.heap.size = G := ⟨_, rfl⟩
  rw [hG] at HB0 x1
  rw [hG]
  clear hb hG
  go_wp2_with (refine wpList_load_has ?_ 54 (.tmp 2) ?_ G ?_ _ (awC b c) _ HB0.out Tryz.underlying54 ?_ HTI.out ?_; rfl; rfl; rfl; rfl)
  refine (fixed_aw b c 0 w1).mono ?_
  rintro e w2 ⟨rfl, hb⟩
  replace HW := Lib.hid (HW.out.trans (hb.mono HW.out.size))
  clear hb x1
  go_wp2_with fail
  go_ret2
  exact ⟨w2.heap.size, rfl, Has.new _ _ _, HW.out.alloc HW.out.size _⟩

def w3 (i : Nat) : Int := if i = 2 then 0 else 500000
theorem w3_sum : Ex.psum w3 3 = 1000000 := by decide
theorem w3_fair {f : Nat → Int} (h : Sp.Fair 100 1000000 w3 3 f) : f 0 = 50 ∧ f 1 = 50 ∧ f 2 = 0 := by
  have hs : Ex.psum (Sp.q 100 1000000 w3) 3 = 100 := by decide
  have h0 := h.exact hs 0 (by omega)
  have h1 := h.exact hs 1 (by omega)
  have h2 := h.exact hs 2 (by omega)
  exact ⟨by rw [h0]; decide, by rw [h1]; decide, by rw [h2]; decide⟩

set_option maxRecDepth 100000 in
set_option maxHeartbeats 1000000 in
theorem pdivide_aw (b c : Nat) (w : World) (h : PartAt w w.heap.size b) : Calls Tryz.prog 377 #[.agg (awC b c), .int .i64 0, .int .i64 100] w
    fun e w' => ∃ S, e = .returned (.tuple #[.slice (some ⟨S, 0, none⟩) 3 3, .int .i64 0]) ∧ (∀ j, j < 3 → w'.cell? ⟨S, j, none⟩ = some (.int .i64 (if j = 2 then 0 else 50))) ∧ S < w'.heap.size ∧ Below w.heap.size w w' := by
  have HP := Lib.hid h
  have HTI := Lib.hid (awC_info (b := b) (c := c) ty_info rfl)
  have HB0 := Lib.hid (Has.new w (awC b c) 54)
  clear h
  go_enter Tryz.func377, Tryz.ntmps377
  go_wp2_with (refine wpList_load_has ?_ 54 (.tmp 3) ?_ w.heap.size ?_ _ (awC b c) _ HB0.out Tryz.underlying54 ?_ HTI.out ?_; rfl; rfl; rfl; rfl)
  refine (weights_aw b c _ (HP.out.later (by (repeat' (first | (with_reducible exact Below.refl _ _) | (with_reducible refine Below.setCell ?_ ?_ _) | (with_reducible refine below_drewN ?_ _) | (with_reducible refine Below.drew ?_) | (with_reducible refine Below.alloc ?_ ?_ _))) <;> (first | omega | (simp <;> omega))))).mono ?_
  rintro e w1 ⟨S, rfl, hS, hb⟩
  have HW : Hid (Below w.heap.size w w1) := Lib.hid (Below.trans (b := (w.alloc (.cells (awC b c) 54))) (by (repeat' (first | (with_reducible exact Below.refl _ _) | (with_reducible refine Below.setCell ?_ ?_ _) | (with_reducible refine below_drewN ?_ _) | (with_reducible refine Below.drew ?_) | (with_reducible refine Below.alloc ?_ ?_ _))) <;> (first | omega | (simp <;> omega))) (hb.mono (by simp)))
  have HS := Lib.hid hS
  clear hb HB0 hS
  have CS := Lib.hid (split_fine (some ⟨S, 0, none⟩) 3 3 w3 100 w1 (by omega) (by omega) (by omega) (by omega) (fun i hi => by unfold w3; split <;> omega) (by rw [w3_sum]; omega) (fun _ => ⟨_, rfl, HS.out.lt, fun j hj => by
    rw [Go.WideShapes.add_plain, Nat.zero_add, HS.out.cell]
    match j, hj with
    | 0, _ | 1, _ | 2, _ => rfl⟩))
  rw [w3_sum] at CS
  go_wp2_with fail
  refine CS.out.mono ?_
  rintro e w2 ⟨S2, f, rfl, hr, hle, hf, hb⟩
  obtain ⟨e0, e1, e2⟩ := w3_fair hf
  have HC : Hid (∀ j, j < 3 → w2.cell? ⟨S2, j, none⟩ = some (.int .i64 (if j = 2 then 0 else 50))) := Lib.hid fun j hj => by
    rw [hr.cell j hj]
    match j, hj with
    | 0, _ => rw [e0]; rfl
    | 1, _ => rw [e1]; rfl
    | 2, _ => rw [e2]; rfl
  have hsl := hr.lt
  replace HW := Lib.hid (HW.out.trans (hb.mono HW.out.size))
  clear hr hf hb CS e0 e1 e2 HS
  go_wp2_with fail
  go_ret2
  exact ⟨S2, rfl, HC.out, hsl, HW.out⟩

set_option maxRecDepth 100000 in
theorem ces_info : (Tryz.prog.info? 483).map (·.size) = some 3 := by kernel_rfl
set_option maxRecDepth 100000 in
set_option maxHeartbeats 1000000 in
theorem pcede_aw (b c : Nat) (w : World) (h : PartAt w w.heap.size b) : Calls Tryz.prog 376 #[.agg (awC b c), .int .i64 0, .int .i64 100] w
    fun e w' => e = .returned (.tuple #[.agg #[.int .i64 50, .int .i64 50, .int .i64 0], .int .i64 0]) ∧ Below w.heap.size w w' := by
  have HP := Lib.hid h
  have HTI := Lib.hid (awC_info (b := b) (c := c) ty_info rfl)
  have HB0 := Lib.hid ((Has.new w (awC b c) 54).alloc (.cells #[.int .i64 0, .int .i64 0, .int .i64 0] 483))
  have HB1 := Lib.hid (Has.new' (w.alloc (.cells (awC b c) 54)) (w.heap.size + 1) #[.int .i64 0, .int .i64 0, .int .i64 0] 483 (by simp))
  clear h
  go_enter Tryz.func376, Tryz.ntmps376
  go_wp2_with (refine wpList_load_has ?_ 54 (.tmp 3) ?_ w.heap.size ?_ _ (awC b c) _ HB0.out Tryz.underlying54 ?_ HTI.out ?_; rfl; rfl; rfl; rfl)
  refine (pdivide_aw b c _ (HP.out.later (by (repeat' (first | (with_reducible exact Below.refl _ _) | (with_reducible refine Below.setCell ?_ ?_ _) | (with_reducible refine below_drewN ?_ _) | (with_reducible refine Below.drew ?_) | (with_reducible refine Below.alloc ?_ ?_ _))) <;> (first | omega | (simp <;> omega))))).mono ?_
  rintro e w1 ⟨S, rfl, hc, hl, hb⟩
  have HW : Hid (Below w.heap.size w w1) := Lib.hid (Below.trans (b := (w.alloc (.cells (awC b c) 54)).alloc (.cells #[.int .i64 0, .int .i64 0, .int .i64 0] 483)) (by (repeat' (first | (with_reducible exact Below.refl _ _) | (with_reducible refine Below.setCell ?_ ?_ _) | (with_reducible refine below_drewN ?_ _) | (with_reducible refine Below.drew ?_) | (with_reducible refine Below.alloc ?_ ?_ _))) <;> (first | omega | (simp <;> omega))) (hb.mono (by simp; omega)))
  replace HB0 := Lib.hid (HB0.out.below hb (by simp; omega))
  replace HB1 := Lib.hid (HB1.out.below hb (by simp))
  have s0 : w1.cell? ⟨S, 0, none⟩ = some (.int .i64 50) := hc 0 (by omega)
  have s1 : w1.cell? ⟨S, 1, none⟩ = some (.int .i64 50) := hc 1 (by omega)
  have s2 : w1.cell? ⟨S, 2, none⟩ = some (.int .i64 0) := hc 2 (by omega)
  obtain ⟨G, hG⟩ : ∃ G, w.heap.size = G := ⟨_, rfl⟩
  rw [hG] at HB0 HB1
  rw [hG]
  have x1 : w1.cell? ⟨G, 1, none⟩ = some (.int .i64 1) := HB0.out.cell 1
  have x11 : w1.cell? ⟨G, 11, none⟩ = some (.int .i64 0) := HB0.out.cell 11
  have g2 := HB0.out.lt
  obtain ⟨c0, c1, c2⟩ := HB1.out.rules
  clear hb hc HP
  go_wp2_with fail
  have HK : Hid (w1.cell? ⟨S, 0, none⟩ = some (.int .i64 50) ∧ w1.cell? ⟨S, 1, none⟩ = some (.int .i64 50) ∧ w1.cell? ⟨S, 2, none⟩ = some (.int .i64 0)) := Lib.hid ⟨s0, s1, s2⟩
  go_region_held3 (fun w' => w'.cell? ⟨S, 0, none⟩ = some (.int .i64 50) ∧ w'.cell? ⟨S, 1, none⟩ = some (.int .i64 50) ∧ w'.cell? ⟨S, 2, none⟩ = some (.int .i64 0)) (first | exact HK.out | go_keep) (fail)
  have hs2 := HW.out.size
  go_wp2_with fail
  have HR := ((((HB1.out.put 0 (.int .i64 50)).put 1 (.int .i64 50)).put 2 (.int .i64 0)).alloc (.cells #[.int .i64 50, .int .i64 50, .int .i64 0] 483)).drew
  refine bodyPost_ret (results_cell_tmp rfl _ _ (G + 1) _ #[.int .i64 50, .int .i64 50, .int .i64 0] _ _ (.int .i64 0) ?_ ?_ HR Tryz.underlying483 rfl ces_info) rfl ?_
  · rfl
  · rfl
  · exact ⟨rfl, ((((HW.out.setCell (p := ⟨G + 1, 0, none⟩) (by simp only; omega) _).setCell (p := ⟨G + 1, 1, none⟩) (by simp only; omega) _).setCell (p := ⟨G + 1, 2, none⟩) (by simp only; omega) _).alloc (by simp; omega) _).drew⟩
end Go.Proofs.YtbeikfopneeodaaGreat
