/- split.divide. split.Split of an amount that is not negative. -/
import Derived.Test.YtbeikfopneeodaaGreatMt15
import Derived.Test.YtbeikfopneeodaaGreatMt16
import Derived.Test.YtbeikfopneeodaaGreatMt11
import Derived.LoopTactic
namespace Go.Proofs.YtbeikfopneeodaaGreat
open Go.RowKit
set_option linter.unusedVariables false

set_option maxRecDepth 100000 in
theorem u64_info : (Tryz.prog.info? 155).map (fun i => (i.zero, i.size, i.bytes)) = some (some (.int .u64 0), 1, 8) := by kernel_rfl

/-- the blocks of divide, after k rounds -/
structure Dv (w : World) (P R O B n : Nat) (a W : Int) (ws : Nat → Int) (k : Nat) (wr : World) : Prop where
  bel : Below w.heap.size w wr
  p : ∃ h, Row wr P n 3 h ∧ ∀ i, i < k → h i = .int .i64 (Sp.q a W ws i)
  r : ∃ h, Row wr R n 155 h ∧ ∀ i, i < k → h i = .int .u64 (Sp.r a W ws i)
  o : ∃ h, Row wr O n 3 h ∧ ∀ i, i < k → h i = .int .i64 i
  b : Has wr B #[.slice (some ⟨R, 0, none⟩) n n] 388
  d : w.heap.size ≤ P ∧ P < R ∧ R < B ∧ B < O
theorem Dv.drewN {w : World} {P R O B n : Nat} {a W : Int} {ws : Nat → Int} {k : Nat} {wr : World} (h : Dv w P R O B n a W ws k wr) (m : Nat) : Dv w P R O B n a W ws k (wr.drewN m) := ⟨below_drewN h.bel m, h.p, h.r, h.o, h.b, h.d⟩
theorem Dv.step {w : World} {P R O B n : Nat} {a W : Int} {ws : Nat → Int} {k : Nat} {wr : World} (h : Dv w P R O B n a W ws k wr) (x y : Int) (hx : x = Sp.q a W ws k) (hy : y = Sp.r a W ws k) :
    Dv w P R O B n a W ws (k + 1) (((wr.setCell ⟨P, k, none⟩ (.int .i64 x)).setCell ⟨R, k, none⟩ (.int .u64 y)).setCell ⟨O, k, none⟩ (.int .i64 k)) := by
  obtain ⟨hb, ⟨f, hp, hf⟩, ⟨g, hr, hg⟩, ⟨o, ho, hoo⟩, hB, d0, d1, d2, d3⟩ := h
  subst hx hy
  refine ⟨((hb.setCell (p := ⟨P, k, none⟩) (by simp only; omega) _).setCell (p := ⟨R, k, none⟩) (by simp only; omega) _).setCell (p := ⟨O, k, none⟩) (by simp only; omega) _,
    ⟨_, ((hp.put k _).far (p := ⟨R, k, none⟩) (by simp only; omega) _).far (p := ⟨O, k, none⟩) (by simp only; omega) _, fun i hi => ?_⟩,
    ⟨_, ((hr.far (p := ⟨P, k, none⟩) (by simp only; omega) _).put k _).far (p := ⟨O, k, none⟩) (by simp only; omega) _, fun i hi => ?_⟩,
    ⟨_, ((ho.far (p := ⟨P, k, none⟩) (by simp only; omega) _).far (p := ⟨R, k, none⟩) (by simp only; omega) _).put k _, fun i hi => ?_⟩,
    ((hB.far (p := ⟨P, k, none⟩) (by simp only; omega) _).far (p := ⟨R, k, none⟩) (by simp only; omega) _).far (p := ⟨O, k, none⟩) (by simp only; omega) _, d0, d1, d2, d3⟩
  all_goals
    by_cases e : i = k
    · subst e; exact if_pos rfl
    · simp only [if_neg e]
      first | exact hf i (by omega) | exact hg i (by omega) | exact hoo i (by omega)
/-- what divide returns -/
def DivPost (a W : Int) (ws : Nat → Int) (n : Nat) (w : World) (e : Ending) (w' : World) : Prop :=
  ∃ g f, e = .returned (.slice (some ⟨g, 0, none⟩) n n) ∧ Row w' g n 3 (fun i => .int .i64 (f i)) ∧ w.heap.size ≤ g ∧ Sp.Fair a W ws n f ∧ Below w.heap.size w w'

set_option maxRecDepth 100000 in
set_option maxHeartbeats 4000000 in
theorem spdivide_any (A : Option Addr) (n c : Nat) (ws : Nat → Int) (a W : Int) (w : World) (hn1 : 1 ≤ n) (hn : n ≤ 64) (ha0 : 0 ≤ a) (ha1 : a ≤ 17592186044416) (hws : ∀ i, i < n → 0 ≤ ws i ∧ ws i ≤ 17592186044416) (hW : W = Ex.psum ws n) (hW0 : 0 < W) (h : Nums w w.heap.size A n ws) :
    Calls Tryz.prog 212 #[.int .i64 a, .slice A n c, .int .i64 W] w (DivPost a W ws n w) := by
  have hW1 : W ≤ 17592186044416 * n := by rw [hW]; exact (Ex.psum_bound ws _ n hws).2
  have hW2 : W ≤ 1125899906842624 := by omega
  have HX := Lib.hid h
  have HWS := Lib.hid hws
  have HWW := Lib.hid hW
  clear h hws hW hW1
  obtain ⟨i0, hi0, hz0, hz1, hz2⟩ := info_parts i64_info
  obtain ⟨W1, hm1, ho1, hg1⟩ := run_make_full (P := Tryz.prog) w w.heap.size 22 3 i0 (.int .i64 0) 1 Tryz.underlying22 hi0 hz0 hz1 .i64 .i64 n (by rw [hz2]; omega) (by unfold maxLen; omega) (Nat.le_refl _)
  have hb1 : Below w.heap.size w W1 := (Below.refl _ _).grown hg1 (Nat.le_refl _) (fun _ h => by cases h)
  obtain ⟨u0, hu0, hy0, hy1, hy2⟩ := info_parts u64_info
  obtain ⟨W2, hm2, ho2, hg2⟩ := run_make_full (P := Tryz.prog) W1 w.heap.size 388 155 u0 (.int .u64 0) 1 Tryz.underlying388 hu0 hy0 hy1 .i64 .i64 n (by rw [hy2]; omega) (by unfold maxLen; omega) hb1.size
  have hb2 : Below W1.heap.size W1 W2 := (Below.refl _ _).grown hg2 (Nat.le_refl _) (fun _ h => by cases h)
  obtain ⟨h1, hr1⟩ := Row.some_made ho1
  obtain ⟨h2, hr2⟩ := Row.some_made ho2
  have hb3 : Below W2.heap.size W2 (W2.alloc (.cells #[.slice (some ⟨W1.heap.size, 0, none⟩) n n] 388)) := (Below.refl _ _).alloc (Nat.le_refl _) _
  have hbx := Has.new W2 #[.slice (some ⟨W1.heap.size, 0, none⟩) n n] 388
  have hlt1 : w.heap.size < W1.heap.size := hr1.lt
  have hlt2 : W1.heap.size < W2.heap.size := hr2.lt
  have hs12 := hb1.size
  have hs23 := hb2.size
  have hs34 := hb3.size
  obtain ⟨W3, hm3, ho3, hg3⟩ := run_make_full (P := Tryz.prog) (W2.alloc (.cells #[.slice (some ⟨W1.heap.size, 0, none⟩) n n] 388)) w.heap.size 22 3 i0 (.int .i64 0) 1 Tryz.underlying22 hi0 hz0 hz1 .i64 .i64 n (by rw [hz2]; omega) (by unfold maxLen; omega) (by omega)
  obtain ⟨h3, hr3⟩ := Row.some_made ho3
  have hb4 : Below (W2.alloc (.cells #[.slice (some ⟨W1.heap.size, 0, none⟩) n n] 388)).heap.size (W2.alloc (.cells #[.slice (some ⟨W1.heap.size, 0, none⟩) n n] 388)) W3 := (Below.refl _ _).grown hg3 (Nat.le_refl _) (fun _ h => by cases h)
  have hD : Dv w w.heap.size W1.heap.size (W2.heap.size + 1) W2.heap.size n a W ws 0 W3 :=
    ⟨((hb1.trans (hb2.mono hs12)).trans (hb3.mono (by omega))).trans (hb4.mono (by omega)),
     ⟨h1, ((hr1.below hb2 hr1.lt).below hb3 (by have := hr1.lt; omega)).below hb4 (by have := hr1.lt; omega), fun i hi => by omega⟩,
     ⟨h2, (hr2.below hb3 hr2.lt).below hb4 (by have := hr2.lt; omega), fun i hi => by omega⟩,
     ⟨h3, by have e : (W2.alloc (.cells #[.slice (some ⟨W1.heap.size, 0, none⟩) n n] 388)).heap.size = W2.heap.size + 1 := by simp
             rw [e] at hr3
             exact hr3, fun i hi => by omega⟩,
     hbx.below hb4 hbx.lt, Nat.le_refl _, hlt1, hlt2, Nat.lt_succ_self _⟩
  have HD := Lib.hid hD
  clear hb1 hb2 hb3 hb4 ho1 ho2 ho3 hg1 hg2 hg3 hr1 hr2 hr3 hbx hD hs12 hs23 hs34 hlt1 hlt2 hi0 hz0 hz1 hz2 hu0 hy0 hy1 hy2
  go_enter Tryz.func212, Tryz.ntmps212
  go_wp2_with fail
  clear hm1 hm2 hm3
  obtain ⟨P, hP⟩ : ∃ P, w.heap.size = P := ⟨_, rfl⟩
  obtain ⟨R, hR⟩ : ∃ P, W1.heap.size = P := ⟨_, rfl⟩
  obtain ⟨B, hB⟩ : ∃ P, W2.heap.size = P := ⟨_, rfl⟩
  rw [hP, hR, hB] at HD
  rw [hP, hR, hB]
  clear hR hB
  have HP := Lib.hid hP
  clear hP
  go_loopw [10, 32] (fun l i wr => ∃ (k : Nat) (s : Int), k ≤ n ∧ i = .int .i64 k ∧ l = .int .i64 (a - s) ∧ Hid (s = Ex.psum (Sp.q a W ws) k) ∧ Hid (Dv w P R (B + 1) B n a W ws k wr)) (fun _ i _ => n - (intOf i).toNat)
  case atStart => exact ⟨0, 0, Nat.zero_le _, rfl, by simp, Lib.hid rfl, HD⟩
  case round =>
    clear HD
    obtain ⟨k, s, hk, rfl, rfl, HS, HD⟩ := hrel
    have hs := HD.out.bel.size
    by_cases hlt : k < n
    · obtain ⟨b, o, rfl, had, hc0⟩ := ((HX.out.below HD.out.bel).mono hs).get hlt
      have hwk := HWS.out k hlt
      have hle : ws k ≤ W := by rw [HWW.out]; exact Sp.le_psum (fun i hi => (HWS.out i hi).1) hlt
      have hq0 := Sp.q_nonneg (W := W) ha0 hW0 hwk.1
      have hr0 := Sp.r_bound (a := a) (ws := ws) hW0 k
      have hqa : Sp.q a W ws k ≤ a := Int.ediv_le_of_le_mul hW0 (Int.mul_le_mul_of_nonneg_left hle ha0)
      have hqd : a * ws k / W = Sp.q a W ws k := rfl
      have hrd : a * ws k % W = Sp.r a W ws k := rfl
      have hps : Ex.psum (Sp.q a W ws) (k + 1) = Ex.psum (Sp.q a W ws) k + Sp.q a W ws k := rfl
      have hp0 : 0 ≤ Ex.psum (Sp.q a W ws) k := Sp.psum_nonneg fun i hi => Sp.q_nonneg ha0 hW0 (HWS.out i (by omega)).1
      have hpa : Ex.psum (Sp.q a W ws) (k + 1) ≤ a := by
        have h1 := Sp.psum_mono' (f := Sp.q a W ws) (k := k + 1) (n := n) (fun i hi => Sp.q_nonneg ha0 hW0 (HWS.out i hi).1) (by omega)
        have h2 := (Sp.left_bound (a := a) hW0 HWW.out (by omega)).1
        omega
      obtain ⟨x, hx⟩ : ∃ x, ws k = x := ⟨_, rfl⟩
      obtain ⟨qk, hqk⟩ : ∃ x, Sp.q a W ws k = x := ⟨_, rfl⟩
      obtain ⟨rk, hrk⟩ : ∃ x, Sp.r a W ws k = x := ⟨_, rfl⟩
      have hs' := HS.out.symm
      rw [hx] at hwk hle hc0 hqd hrd
      rw [hqk] at hq0 hqa hqd hps
      rw [hrk] at hr0 hrd
      rw [hs'] at hps hp0
      rw [hps] at hpa
      obtain ⟨x0, x1⟩ := hwk
      obtain ⟨r0, r1⟩ := hr0
      obtain ⟨H, hH⟩ : ∃ H, a * x / 18446744073709551616 = H := ⟨_, rfl⟩
      obtain ⟨L, hL⟩ : ∃ H, a * x % 18446744073709551616 = H := ⟨_, rfl⟩
      have hHL : H * 18446744073709551616 + L = a * x := by rw [← hH, ← hL, Int.mul_comm]; exact Int.mul_ediv_add_emod _ _
      have hH0 : 0 ≤ H := by rw [← hH]; exact Int.ediv_nonneg (Int.mul_nonneg ha0 x0) (by omega)
      have hL0 : 0 ≤ L := by rw [← hL]; exact Int.emod_nonneg _ (by omega)
      have hL1 : L < 18446744073709551616 := by rw [← hL]; exact Int.emod_lt_of_pos _ (by omega)
      have hH1 : H < W := by
        have h1 : a * x ≤ 17592186044416 * W := by
          have h2 := Int.mul_le_mul ha1 hle x0 (by omega)
          exact h2
        omega
      have HMUL := Lib.hid (fun W' => Am.mul64 a x H L W' ha0 (by omega) x0 (by omega) (Lib.hid hH) (Lib.hid hL))
      have HDIV := Lib.hid (fun W' => Am.div64 H L W qk rk W' hH0 hH1 (by omega) hL0 hL1 (Lib.hid (by rw [hHL]; exact hqd)) (Lib.hid (by rw [hHL]; exact hrd)))
      have hc1 : IntKind.u64.wrap a = a := by rw [show IntKind.u64.wrap a = a % 18446744073709551616 from by simp [IntKind.wrap, IntKind.bits, IntKind.signed]]; omega
      have hc2 : IntKind.u64.wrap x = x := by rw [show IntKind.u64.wrap x = x % 18446744073709551616 from by simp [IntKind.wrap, IntKind.bits, IntKind.signed]]; omega
      have hc3 : IntKind.u64.wrap W = W := by rw [show IntKind.u64.wrap W = W % 18446744073709551616 from by simp [IntKind.wrap, IntKind.bits, IntKind.signed]]; omega
      have hk0 : (0 : Int) ≤ k := by omega
      have hk1 : (k : Int) < n := by omega
      have HQK : Hid (qk = Sp.q a W ws k) := Lib.hid hqk.symm
      have HRK : Hid (rk = Sp.r a W ws k) := Lib.hid hrk.symm
      have HPS : Hid (a - Ex.psum (Sp.q a W ws) (k + 1) = a - s - qk) := Lib.hid (by rw [show Ex.psum (Sp.q a W ws) (k + 1) = s + qk from hps]; omega)
      clear hx hqk hrk hs' hH hL hHL hqd hrd hps
      go_wp2_with fail
      refine (HMUL.out _).mono ?_
      rintro e w' ⟨rfl, rfl⟩
      go_wp2_with fail
      refine (HDIV.out _).mono ?_
      rintro e w' ⟨rfl, nq, rfl⟩
      clear HMUL HDIV
      replace HD := Lib.hid (HD.out.drewN nq)
      obtain ⟨wn, hwn⟩ : ∃ W, wr.drewN nq = W := ⟨_, rfl⟩
      rw [hwn] at HD ⊢
      clear hwn
      obtain ⟨hb, ⟨f, hp, hf⟩, ⟨g, hr, hg⟩, ⟨oo, ho, hoo⟩, hB, d0, d1, d2, d3⟩ := HD.out
      have p0 := hp.cell k hlt
      have p1 := hp.free
      have p2 := hp.lt
      have r0' := hr.cell k hlt
      have r1' := hr.free
      have r2' := hr.lt
      have o0 := ho.cell k hlt
      have o1 := ho.free
      have o2 := ho.lt
      have b0 : wn.cell? ⟨B, 0, none⟩ = some (.slice (some ⟨R, 0, none⟩) n n) := hB.cell 0
      have b2 := hB.lt
      have hc4 : IntKind.i64.wrap qk = qk := by rw [IntKind.wrap_i64]; omega
      have HB0 := Lib.hid b0
      have hPB : B ≠ P := by omega
      have hRB : B ≠ R := by omega
      have hOB : B ≠ B + 1 := by omega
      have hRP : R ≠ P := by omega
      have hOP : B + 1 ≠ P := by omega
      have hOR : B + 1 ≠ R := by omega
      clear hb hf hg hoo d0 d1 d2 d3 hp hr ho hB b0
      go_wp2_with fail
      go_region_held3 (fun w' => w'.cell? ⟨B, 0, none⟩ = some (.slice (some ⟨R, 0, none⟩) n n)) (first | exact HB0.out | (refine Eq.trans ?_ HB0.out; go_simp)) (fail)
      have hD2 := (HD.out.step qk rk HQK.out HRK.out).drewN 1
      replace HD := Lib.hid hD2
      clear p0 p1 p2 r0' r1' r2' o0 o1 o2 b2 HB0 hPB hRB hOB hRP hOP hOR hD2
      obtain ⟨w5, hw5⟩ : ∃ W, (((wn.setCell ⟨P, k, none⟩ (.int .i64 qk)).setCell ⟨R, k, none⟩ (.int .u64 rk)).setCell ⟨B + 1, k, none⟩ (.int .i64 k)).drewN 1 = W := ⟨_, rfl⟩
      have hw6 : (((wn.setCell ⟨P, k, none⟩ (.int .i64 qk)).setCell ⟨R, k, none⟩ (.int .u64 rk)).setCell ⟨B + 1, k, none⟩ (.int .i64 k)).drew = w5 := hw5
      rw [hw5] at HD
      rw [hw6]
      clear hw5 hw6
      obtain ⟨f2, hp2, hf2⟩ := HD.out.p
      have p0 := hp2.cell k hlt
      rw [hf2 k (by omega), ← HQK.out] at p0
      clear hp2 hf2
      have HS2 : Hid (s + qk = Ex.psum (Sp.q a W ws) (k + 1)) := Lib.hid (by have := HPS.out; omega)
      have hsub : a - s - qk = a - (s + qk) := by omega
      have HSUB := Lib.hid hsub
      clear HPS hsub HS HX
      go_wp2_with fail
      go_roundw
      case rel => exact ⟨k + 1, s + qk, by omega, by go_num, by rw [HSUB.out], HS2, HD⟩
      case measure => simp [intOf]; omega
    · obtain rfl : k = n := by omega
      have hdd : decide ((k : Int) < k) = false := by rw [decide_eq_false_iff_not]; omega
      go_wp2_with fail
      obtain ⟨hb, ⟨f, hp, hf⟩, ⟨g, hr, hg⟩, ⟨oo, ho, hoo⟩, hB, d0, d1, d2, d3⟩ := HD.out
      refine (sortrem B R (B + 1) k (Sp.r a W ws) wr hn1 hn (hB.cell 0) (fun j hj => by rw [hr.cell j hj, hg j hj]) (fun j hj => by rw [ho.cell j hj, hoo j hj]) (fun j => ho.free j) ho.lt hr.lt hB.lt (by omega) (by omega)).mono ?_
      rintro e w5 ⟨rfl, hl, ord, hord⟩
      have HOR := Lib.hid hord
      have HL0 := Lib.hid hl
      have hleft := Sp.left_bound (a := a) hW0 HWW.out (by omega)
      rw [← HS.out] at hleft
      obtain ⟨l, hle⟩ : ∃ l : Nat, a - s = l := ⟨(a - s).toNat, by omega⟩
      have HSA : Hid (Ex.psum (Sp.q a W ws) k = a - l) := Lib.hid (by rw [← HS.out]; omega)
      rw [hle] at hleft ⊢
      have hl0 : l < k := by omega
      have HP2 : Hid (Row w5 P k 3 (fun i => .int .i64 (Sp.q a W ws i))) := by
        obtain ⟨cur, hh, h1, h2⟩ := hp
        exact Lib.hid ⟨cur, hh.leaves hl (by omega), h1, fun j hj => by rw [h2 j hj, hf j hj]⟩
      have hpl := hp.lt
      have HB : Hid (Below w.heap.size w w5) := Lib.hid (hb.trans (hl.below (fun k hk => by omega) hs))
      have hPw : w.heap.size ≤ P := d0
      have hPO : B + 1 ≠ P := by omega
      have hpo : P < B + 1 := by omega
      have hol : B + 1 < w5.heap.size := by have := ho.lt; have := hl.size; omega
      clear hb hf hp hr hg ho hoo hB d0 d1 d2 d3 hl hord hle hleft HL0 HD HS hs
      go_wp2_with fail
      go_loopw [19, 81] (fun _ i wr => ∃ (j : Nat) (f : Nat → Int), j ≤ l ∧ i = .int .i64 j ∧ Hid (Row wr P k 3 (fun i => .int .i64 (f i))) ∧ Hid (∀ j, j < k → Sp.q a W ws j ≤ f j) ∧ Hid (Ex.psum f k = a - l + j) ∧ Hid (∀ q, q < k → wr.cell? ⟨B + 1, q, none⟩ = some (.int .i64 (ord q))) ∧ Hid (Below w.heap.size w wr)) (fun _ i _ => l - (intOf i).toNat)
      case atStart => exact ⟨0, _, Nat.zero_le _, rfl, HP2, Lib.hid fun j hj => Int.le_refl _, Lib.hid (by rw [HSA.out]; omega), Lib.hid fun q hq => (HOR.out q hq).2, HB⟩
      case round =>
        clear HP2 HB
        obtain ⟨j, f, hj, rfl, HR, HLO, HSU, HO, HB⟩ := hrel
        by_cases hjl : j < l
        · have o0 := HO.out j (by omega)
          have hoj := (HOR.out j (by omega)).1
          obtain ⟨x, hx⟩ : ∃ x, ord j = x := ⟨_, rfl⟩
          rw [hx] at o0 hoj
          have p0 := HR.out.cell x hoj
          have p1 := HR.out.free
          have p2 := HR.out.lt
          have hfx : 0 ≤ f x := by
            have h1 := HLO.out x hoj
            have h2 := Sp.q_nonneg (W := W) ha0 hW0 (HWS.out x hoj).1
            omega
          have hfa : f x ≤ a := by
            have h1 := Sp.le_psum (f := f) (n := k) (i := x) (fun i hi => by
              have h1 := HLO.out i hi
              have h2 := Sp.q_nonneg (W := W) ha0 hW0 (HWS.out i hi).1
              omega) hoj
            have h2 := HSU.out
            omega
          obtain ⟨y, hy⟩ : ∃ y, f x = y := ⟨_, rfl⟩
          rw [hy] at p0 hfx hfa
          have HY := Lib.hid hy
          have hx0 : (0 : Int) ≤ x := by omega
          have hx1 : (x : Int) < k := by omega
          have hj0 : (0 : Int) ≤ j := by omega
          have hj1 : (j : Int) < l := by omega
          clear hy hx
          go_wp2_with fail
          have HR2 : Hid (Row (wr.setCell ⟨P, x, none⟩ (.int .i64 (y + 1))) P k 3 (fun i => .int .i64 (if i = x then y + 1 else f i))) := Lib.hid ((HR.out.put x (.int .i64 (y + 1))).congr fun i hi => by
            by_cases e : i = x
            · rw [if_pos e, if_pos e]
            · rw [if_neg e, if_neg e])
          have HLO2 : Hid (∀ i, i < k → Sp.q a W ws i ≤ if i = x then y + 1 else f i) := Lib.hid fun i hi => by
            have h1 := HLO.out i hi
            by_cases e : i = x
            · rw [if_pos e]; rw [e] at h1; have := HY.out; subst e; omega
            · rw [if_neg e]; exact h1
          have HSU2 : Hid (Ex.psum (fun i => if i = x then y + 1 else f i) k = a - l + ((j + 1 : Nat) : Int)) := Lib.hid (by rw [Sp.psum_put hoj, HSU.out, HY.out]; omega)
          have HO2 : Hid (∀ q, q < k → (wr.setCell ⟨P, x, none⟩ (.int .i64 (y + 1))).cell? ⟨B + 1, q, none⟩ = some (.int .i64 (ord q))) := Lib.hid fun q hq => by
            rw [World.cell?_setCell_other wr ⟨P, x, none⟩ ⟨B + 1, q, none⟩ _ (fun e => by injection e with e; omega)]
            exact HO.out q hq
          have HB2 : Hid (Below w.heap.size w (wr.setCell ⟨P, x, none⟩ (.int .i64 (y + 1)))) := Lib.hid (HB.out.setCell (p := ⟨P, x, none⟩) hPw _)
          clear HR HLO HSU HO HB p0 p1 p2
          go_roundw
          case rel => exact ⟨j + 1, _, by omega, by go_num, HR2, HLO2, HSU2, HO2, HB2⟩
          case measure => simp [intOf]; omega
        · obtain rfl : j = l := by omega
          have hdj : decide ((j : Int) < j) = false := by rw [decide_eq_false_iff_not]; omega
          go_wp2_with fail
          go_ret
          exact ⟨P, f, rfl, HR.out, hPw, ⟨by rw [HSU.out]; omega, HLO.out⟩, HB.out⟩
end Go.Proofs.YtbeikfopneeodaaGreat
namespace Go.Proofs.YtbeikfopneeodaaGreat
open Go.RowKit
set_option linter.unusedVariables false

set_option maxRecDepth 100000 in
set_option maxHeartbeats 1000000 in
theorem inrange_any (A : Option Addr) (n c : Nat) (ws : Nat → Int) (w : World) (hn : n ≤ 64) (hws : ∀ i, i < n → 0 ≤ ws i ∧ ws i ≤ 17592186044416) (h : Nums w w.heap.size A n ws) :
    Calls Tryz.prog 210 #[.slice A n c] w fun e w' => e = .returned (.bool true) ∧ w = w' := by
  have HX := Lib.hid h
  have HW := Lib.hid hws
  clear h hws
  go_enter Tryz.func210, Tryz.ntmps210
  go_wp2_with fail
  go_loop [7] (fun i => ∃ k : Nat, k ≤ n ∧ i = .int .i64 k) (fun i => n - (intOf i).toNat)
  case atStart => exact ⟨0, Nat.zero_le _, rfl⟩
  case round =>
    obtain ⟨k, hk, rfl⟩ := hrel
    by_cases hlt : k < n
    · obtain ⟨b, o, rfl, had, hc0⟩ := HX.out.get hlt
      have hb := HW.out k hlt
      obtain ⟨x, hx⟩ : ∃ x, ws k = x := ⟨_, rfl⟩
      rw [hx] at hc0 hb
      obtain ⟨x0, x1⟩ := hb
      have hk0 : (0 : Int) ≤ k := by omega
      have hk1 : (k : Int) < n := by omega
      clear hx
      go_wp2_with fail
      go_round
      case rel => exact ⟨k + 1, by omega, by go_num⟩
      case measure => simp [intOf]; omega
    · obtain rfl : k = n := by omega
      have hdd : decide ((k : Int) < k) = false := by rw [decide_eq_false_iff_not]; omega
      go_wp2_with fail
      go_ret
      exact ⟨rfl, rfl⟩

set_option maxRecDepth 100000 in
set_option maxHeartbeats 1000000 in
theorem sptotal_any (A : Option Addr) (n c : Nat) (ws : Nat → Int) (w : World) (hn : n ≤ 64) (hws : ∀ i, i < n → 0 ≤ ws i ∧ ws i ≤ 17592186044416) (h : Nums w w.heap.size A n ws) :
    Calls Tryz.prog 211 #[.slice A n c] w fun e w' => e = .returned (.int .i64 (Ex.psum ws n)) ∧ w = w' := by
  have HX := Lib.hid h
  have HW := Lib.hid hws
  clear h hws
  obtain ⟨R, hR⟩ : ∃ R, Ex.psum ws n = R := ⟨_, rfl⟩
  rw [hR]
  have HR := Lib.hid hR
  clear hR
  go_enter Tryz.func211, Tryz.ntmps211
  go_wp2_with fail
  go_loop [3, 8] (fun s i => ∃ (k : Nat) (z : Int), k ≤ n ∧ i = .int .i64 k ∧ s = .int .i64 z ∧ Hid (z = Ex.psum ws k)) (fun _ i => n - (intOf i).toNat)
  case atStart => exact ⟨0, 0, Nat.zero_le _, rfl, rfl, Lib.hid rfl⟩
  case round =>
    obtain ⟨k, z, hk, rfl, rfl, HZ⟩ := hrel
    by_cases hlt : k < n
    · obtain ⟨b, o, rfl, had, hc0⟩ := HX.out.get hlt
      have hb := HW.out k hlt
      have hz := Ex.psum_bound ws 17592186044416 k (fun i hi => HW.out i (by omega))
      rw [← HZ.out] at hz
      have hps : Ex.psum ws (k + 1) = Ex.psum ws k + ws k := rfl
      obtain ⟨x, hx⟩ : ∃ x, ws k = x := ⟨_, rfl⟩
      rw [hx] at hc0 hb hps
      obtain ⟨x0, x1⟩ := hb
      have HZ2 : Hid (z + x = Ex.psum ws (k + 1)) := Lib.hid (by rw [hps, HZ.out])
      obtain ⟨z0, z1⟩ := hz
      have z2 : z ≤ 1125899906842624 := by omega
      have hk0 : (0 : Int) ≤ k := by omega
      have hk1 : (k : Int) < n := by omega
      clear hx hps HZ z1
      go_wp2_with fail
      go_round
      case rel => exact ⟨k + 1, _, by omega, by go_num, rfl, HZ2⟩
      case measure => simp [intOf]; omega
    · obtain rfl : k = n := by omega
      have hdd : decide ((k : Int) < k) = false := by rw [decide_eq_false_iff_not]; omega
      go_wp2_with fail
      go_ret
      exact ⟨ret_i64 (by rw [HZ.out, HR.out]), rfl⟩

/-- what Split returns -/
def SplPost (a W : Int) (ws : Nat → Int) (n : Nat) (w : World) (e : Ending) (w' : World) : Prop :=
  ∃ g f, e = .returned (.tuple #[.slice (some ⟨g, 0, none⟩) n n, .int .i64 0]) ∧ Row w' g n 3 (fun i => .int .i64 (f i)) ∧ w.heap.size ≤ g ∧ Sp.Fair a W ws n f ∧ Below w.heap.size w w'

set_option maxRecDepth 100000 in
set_option maxHeartbeats 1000000 in
theorem split_fine (A : Option Addr) (n c : Nat) (ws : Nat → Int) (a : Int) (w : World) (hn1 : 1 ≤ n) (hn : n ≤ 64) (ha0 : 0 ≤ a) (ha1 : a ≤ 17592186044416) (hws : ∀ i, i < n → 0 ≤ ws i ∧ ws i ≤ 17592186044416) (hW0 : 0 < Ex.psum ws n) (h : Nums w w.heap.size A n ws) :
    Calls Tryz.prog 180 #[.int .i64 a, .slice A n c] w (SplPost a (Ex.psum ws n) ws n w) := by
  have CI := Lib.hid (inrange_any A n c ws w hn hws h)
  have CT := Lib.hid (sptotal_any A n c ws w hn hws h)
  have CD := Lib.hid (spdivide_any A n c ws a (Ex.psum ws n) w hn1 hn ha0 ha1 hws rfl hW0 h)
  have HV : Hid (Am.validB a = true) := Lib.hid (by unfold Am.validB; rw [Bool.and_eq_true, decide_eq_true_iff, decide_eq_true_iff]; omega)
  obtain ⟨W, hW⟩ : ∃ W, Ex.psum ws n = W := ⟨_, rfl⟩
  rw [hW] at CT CD hW0 ⊢
  have hw0 : (W == 0) = false := by rw [beq_eq_false_iff_ne]; omega
  clear hW h hws
  go_enter Tryz.func180, Tryz.ntmps180
  go_wp2_with fail
  refine (valid_any _ _).mono ?_
  rintro e w1 ⟨rfl, rfl⟩
  rw [HV.out]
  go_wp2_with fail
  refine CI.out.mono ?_
  rintro e w1 ⟨rfl, rfl⟩
  go_wp2_with fail
  refine CT.out.mono ?_
  rintro e w1 ⟨rfl, rfl⟩
  go_wp2_with fail
  refine CD.out.mono ?_
  rintro e w1 ⟨g, f, rfl, hr, hg, hf, hb⟩
  have HR := Lib.hid hr
  have HF := Lib.hid hf
  have HB := Lib.hid hb
  clear hr hf hb
  go_wp2_with fail
  go_ret2
  exact ⟨g, f, rfl, HR.out, hg, HF.out, HB.out⟩
end Go.Proofs.YtbeikfopneeodaaGreat
