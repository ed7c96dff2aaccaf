/- The law RetroSolutions: both results are solutions, and the net losses of a solution add up to the own losses, and none is negative. No condition. -/
import Derived.Test.YtdfajopniflaaaaRows
import Derived.Test.YtdfajopniflaaaaRead
import Derived.Test.YtdfajopniflaaaaReAw
import Derived.Test.YtdfajopniflaaaaReArgs
import Derived.Test.YtdfajopniflaaaaReN
import Derived.WalkKit
import Derived.ProofKit
import Derived.OpenShut
import Derived.ShutString
import Derived.ChangeOld
import Derived.Below
namespace Go.Proofs.Ytdfajopniflaaaa.retroSolutions
open Go.ChangeShapes Go.WideShapes Go.ChangeAt Go.RowKit
set_option linter.unusedVariables false

theorem own : ownKnob Try.prog.godebug = none := by kernel_rfl
theorem laidOut : laidOutB Try.prog = true := by kernel_rfl

theorem Re.least_range {n : Nat} {o : Nat → Int} {m : Nat} {R : Nat → Re.Rt} (hV : Re.verr n o m R = 0) {f c : Nat} {x L : Nat → Int} {c' : Nat} (h : Re.sett (Re.step o m R) n f c x = some (L, c')) : ∀ i, i < n → 0 ≤ L i ∧ L i ≤ 17592186044416 := by
  obtain ⟨y, rfl, _⟩ := Re.sett_fix f c x L c' h
  intro i hi
  have h1 := Re.step_bound o m R y i
  have h2 := (Re.verr_fine hV).2.2.2.1 i hi
  have h3 := (Re.verr_fine hV).2.2.1
  omega
def pick {α : Type} (j : Nat) (a b : α) : α := if j = 0 then a else b
theorem Re.tot_bound (f : Nat → Int) (M : Int) (k : Nat) (h : ∀ i, i < k → -M ≤ f i ∧ f i ≤ M) : -M * k ≤ Re.tot f k ∧ Re.tot f k ≤ M * k := by
  induction k with
  | zero => simp [Re.tot]
  | succ k ih =>
    have h1 := ih fun i hi => h i (by omega)
    have h2 := h k (by omega)
    rw [Re.tot, show M * ((k + 1 : Nat) : Int) = M * k + M by rw [Int.natCast_succ, Int.mul_add, Int.mul_one], show -M * ((k + 1 : Nat) : Int) = -M * k - M by rw [Int.natCast_succ, Int.mul_add, Int.mul_one]; omega]
    omega
/-- what holds at the head of every round -/
structure Rnd (w : World) (A A2 X Y : Option Addr) (n c m c2 cx cy bs : Nat) (o l1 l2 : Nat → Int) (R : Nat → Re.Rt) (t : TypeId) (wr : World) : Prop where
  bel : Below w.heap.size w wr
  own : Nums wr wr.heap.size A n o
  rs : Rets wr wr.heap.size A2 m R
  x : Nums wr wr.heap.size X n l1
  y : Nums wr wr.heap.size Y n l2
  has : Has wr bs #[.slice X n cx, .slice Y n cy] t
theorem Rnd.below {w : World} {A A2 X Y : Option Addr} {n c m c2 cx cy bs : Nat} {o l1 l2 : Nat → Int} {R : Nat → Re.Rt} {t : TypeId} {wr w' : World} (h : Rnd w A A2 X Y n c m c2 cx cy bs o l1 l2 R t wr) (hb : Below wr.heap.size wr w') : Rnd w A A2 X Y n c m c2 cx cy bs o l1 l2 R t w' :=
  ⟨h.bel.trans (hb.mono h.bel.size), (h.own.below hb).mono hb.size, (h.rs.below hb).mono hb.size, (h.x.below hb).mono hb.size, (h.y.below hb).mono hb.size, h.has.below hb h.has.lt⟩
theorem Rnd.drewN {w : World} {A A2 X Y : Option Addr} {n c m c2 cx cy bs : Nat} {o l1 l2 : Nat → Int} {R : Nat → Re.Rt} {t : TypeId} {wr : World} (h : Rnd w A A2 X Y n c m c2 cx cy bs o l1 l2 R t wr) (q : Nat) : Rnd w A A2 X Y n c m c2 cx cy bs o l1 l2 R t (wr.drewN q) := h.below (below_drewN (Below.refl _ _) q)
theorem Rnd.cell {w : World} {A A2 X Y : Option Addr} {n c m c2 cx cy bs : Nat} {o l1 l2 : Nat → Int} {R : Nat → Re.Rt} {t : TypeId} {wr : World} (h : Rnd w A A2 X Y n c m c2 cx cy bs o l1 l2 R t wr) (j : Nat) (hj : j < 2) :
    wr.cell? ⟨bs, j, none⟩ = some (.slice (pick j X Y) n (pick j cx cy)) ∧ Nums wr wr.heap.size (pick j X Y) n (pick j l1 l2) := by
  match j, hj with
  | 0, _ => exact ⟨h.has.cell 0, h.x⟩
  | 1, _ => exact ⟨h.has.cell 1, h.y⟩

set_option maxHeartbeats 4000000 in
set_option maxRecDepth 100000 in
theorem walk (v0 : Value) (w : World) (h0 : Rd22 w [v0]) :
    Calls Try.prog 8 #[v0] w fun e w' => e = .returned (.bool true) ∧ Below w.heap.size w w' := by
  obtain ⟨AD, nd, cd, zd, rfl, hnd, _, _, hdc, _⟩ := rd_ints h0
  have HDC := Lib.hid hdc
  clear h0 hdc
  obtain ⟨bd, hbd⟩ : ∃ b, w.heap.size = b := ⟨_, rfl⟩
  have CN := Lib.hid (new2_any AD nd cd zd w hnd HDC.out)
  rw [hbd] at CN
  go_enter Try.func8, Try.ntmps8
  go_wp2_with fail
  refine CN.out.mono ?_
  rintro e w1 ⟨rfl, hb, hd⟩
  have HB : Hid (Below w.heap.size w w1) := Lib.hid (by rw [hbd]; exact hb)
  have HD := Lib.hid hd
  clear hb hd HDC CN
  go_wp2_with fail
  refine (retros_any _ _ HD.out).mono ?_
  intro e w2 hpost
  obtain ⟨g, n, m, B2, k2, o, R, rfl, hn1, hn5, hm6, hg, _, _, ho1, hr1, hB2, hob, _, hV1, hk, hd⟩ := retros_use hpost HD.out.lt
  replace HB : Hid (Below w.heap.size w w2) := Lib.hid (HB.out.trans (hk.below (by omega) HB.out.size))
  have HO := Lib.hid ho1
  have HR := Lib.hid hr1
  have HV := Lib.hid hV1
  have HOB := Lib.hid hob
  clear hpost hk hd ho1 hr1 hV1 hB2 hob HD
  have hz2 := HB.out.size
  have CS := Lib.hid (solve_any (some ⟨g, 0, none⟩) n n o B2 m k2 R w2 (by omega) (by omega) HO.out HR.out)
  rw [HV.out] at CS
  obtain ⟨s1, hs1⟩ : ∃ s, Re.least n o m R = s := ⟨_, rfl⟩
  obtain ⟨s2, hs2⟩ : ∃ s, Re.greatest n o m R = s := ⟨_, rfl⟩
  rw [hs1, hs2] at CS
  have HS1 := Lib.hid hs1
  have HS2 := Lib.hid hs2
  clear hs1 hs2
  go_wp2_with fail
  refine CS.out.mono ?_
  rintro e w3 ⟨X, Y, mm, cx, cy, rfl, hb, hmm, hx, hy⟩
  have HMM := Lib.hid hmm
  have HX := Lib.hid hx
  have HY := Lib.hid hy
  replace HO := Lib.hid ((HO.out.below hb).mono hb.size)
  replace HR := Lib.hid ((HR.out.below hb).mono hb.size)
  replace HB : Hid (Below w.heap.size w w3) := Lib.hid (HB.out.trans (hb.mono hz2))
  clear hmm hx hy hb CS hz2
  have hz3 := HB.out.size
  by_cases hbo : Re.both 0 s1 s2
  · obtain ⟨p1, rfl⟩ : ∃ p, s1 = some p := Option.isSome_iff_exists.1 hbo.2.1
    obtain ⟨p2, rfl⟩ : ∃ p, s2 = some p := Option.isSome_iff_exists.1 hbo.2.2
    obtain ⟨l1, r1⟩ := p1
    obtain ⟨l2, r2⟩ := p2
    obtain rfl : mm = n := by rw [HMM.out, if_pos hbo]
    have HL1 : Hid ((∀ i, Re.step o m R l1 i = l1 i) ∧ ∀ i, i < mm → 0 ≤ l1 i ∧ l1 i ≤ 17592186044416) := Lib.hid ⟨Re.solution HV.out HS1.out, Re.least_range HV.out HS1.out⟩
    have HL2 : Hid ((∀ i, Re.step o m R l2 i = l2 i) ∧ ∀ i, i < mm → 0 ≤ l2 i ∧ l2 i ≤ 17592186044416) := Lib.hid ⟨Re.solution HV.out HS2.out, Re.least_range HV.out HS2.out⟩
    have hst : Re.cst mm 0 (some (l1, r1)) (some (l2, r2)) = 1 ∨ Re.cst mm 0 (some (l1, r1)) (some (l2, r2)) = 2 := by
      rw [Re.cst, if_neg (by simp), if_pos hbo]
      split
      · exact .inl rfl
      · exact .inr rfl
    obtain ⟨st, hst'⟩ : ∃ st, Re.cst mm 0 (some (l1, r1)) (some (l2, r2)) = st := ⟨_, rfl⟩
    rw [hst'] at hst ⊢
    have hst3 : (st == 3) = false := by rw [beq_eq_false_iff_ne]; omega
    unfold Re.lst at HX HY
    simp only at HX HY
    obtain ⟨q1, hq1⟩ : ∃ q, Re.crn 0 (some (l1, r1)) (some (l2, r2)) (Re.rnd (some (l1, r1))) = q := ⟨_, rfl⟩
    obtain ⟨q2, hq2⟩ : ∃ q, Re.crn 0 (some (l1, r1)) (some (l2, r2)) (Re.rnd (some (l2, r2))) = q := ⟨_, rfl⟩
    rw [hq1, hq2]
    clear hst hst' hq1 hq2 hbo HMM HS1 HS2
    have HLL : Hid (∀ j, (∀ i, Re.step o m R (pick j l1 l2) i = pick j l1 l2 i) ∧ ∀ i, i < mm → 0 ≤ pick j l1 l2 i ∧ pick j l1 l2 i ≤ 17592186044416) := Lib.hid fun j => by
      unfold pick
      split
      · exact HL1.out
      · exact HL2.out
    clear HL1 HL2
    obtain ⟨W4, hW4⟩ : ∃ W, (w3.alloc (.cells #[.int .i64 st, .slice X mm cx, .slice Y mm cy, .int .i64 q1, .int .i64 q2] 36)).alloc (.cells #[.slice X mm cx, .slice Y mm cy] 22) = W := ⟨_, rfl⟩
    have hb4 : Below w3.heap.size w3 W4 := by rw [← hW4]; exact ((Below.refl _ _).alloc (Nat.le_refl _) _).alloc (by simp) _
    have HRN : Hid (Rnd w (some ⟨g, 0, none⟩) B2 X Y mm mm m k2 cx cy (w3.heap.size + 1) o l1 l2 R 22 W4) := Lib.hid ⟨HB.out.trans (hb4.mono hz3), (HO.out.below hb4).mono hb4.size, (HR.out.below hb4).mono hb4.size, (HX.out.below hb4).mono hb4.size, (HY.out.below hb4).mono hb4.size, by rw [← hW4]; exact Has.new' (w3.alloc _) _ _ _ (by simp)⟩
    obtain ⟨bs, hbs⟩ : ∃ b, w3.heap.size + 1 = b := ⟨_, rfl⟩
    rw [hbs] at HRN
    clear hb4
    go_wp2_with fail
    clear hW4 hbs HB HO HR HX HY hz3
    go_loopw [8, 9, 10, 11, 12, 13, 14, 39, 78] (fun _ _ _ _ _ _ _ i _ wr => ∃ j : Nat, j ≤ 2 ∧ i = .int .i64 j ∧ Hid (Rnd w (some ⟨g, 0, none⟩) B2 X Y mm mm m k2 cx cy bs o l1 l2 R 22 wr)) (fun _ _ _ _ _ _ _ i _ _ => 2 - (intOf i).toNat)
    case atStart => exact ⟨0, by omega, rfl, HRN⟩
    case round =>
      clear HRN
      obtain ⟨j, hj, rfl, HRN⟩ := hrel
      by_cases hlt : j < 2
      · obtain ⟨hcz, hz⟩ := HRN.out.cell j hlt
        obtain ⟨hl, hlb⟩ := HLL.out j
        obtain ⟨Z, hZ⟩ : ∃ Z, pick j X Y = Z := ⟨_, rfl⟩
        obtain ⟨cz, hcz'⟩ : ∃ c, pick j cx cy = c := ⟨_, rfl⟩
        obtain ⟨l, hl'⟩ : ∃ l, pick j l1 l2 = l := ⟨_, rfl⟩
        rw [hZ, hcz'] at hcz
        rw [hZ, hl'] at hz
        rw [hl'] at hl hlb
        have HZZ := Lib.hid hz
        have HL := Lib.hid hl
        have HLB := Lib.hid hlb
        have HE : Hid (Re.lerr mm o m R mm l = 0) := Lib.hid (Re.lerr_ok HV.out hlb)
        clear hz hl hlb hZ hcz' hl'
        have C1 := Lib.hid (iterate_any (some ⟨g, 0, none⟩) mm mm o B2 m k2 R Z mm cz l wr (by omega) (by omega) (by omega) HRN.out.own HRN.out.rs HZZ.out)
        rw [HE.out] at C1
        have hj0 : (0 : Int) ≤ j := by omega
        have hj1 : (j : Int) < 2 := by omega
        go_wp2_with fail
        refine C1.out.mono ?_
        rintro e w5 ⟨P, mp, cp, rfl, hb, hmp, hp, _⟩
        rw [if_pos rfl] at hmp
        subst hmp
        have HP : Hid (Nums w5 w5.heap.size P mp l) := Lib.hid (Nums.congr hp fun i _ => HL.out i)
        replace HRN := Lib.hid (HRN.out.below hb)
        replace HZZ := Lib.hid ((HZZ.out.below hb).mono hb.size)
        clear hb hp C1 hcz
        have C2 := Lib.hid (net_any (some ⟨g, 0, none⟩) mp mp o B2 m k2 R Z mp cz l w5 (by omega) (by omega) (by omega) HRN.out.own HRN.out.rs HZZ.out)
        rw [HE.out] at C2
        go_wp2_with fail
        refine C2.out.mono ?_
        rintro e w6 ⟨Q, mq, cq, rfl, hb, hmq, hq, _⟩
        rw [if_pos rfl] at hmq
        subst hmq
        have HQ := Lib.hid hq
        replace HRN := Lib.hid (HRN.out.below hb)
        replace HZZ := Lib.hid ((HZZ.out.below hb).mono hb.size)
        replace HP := Lib.hid ((HP.out.below hb).mono hb.size)
        clear hb hq C2 HE
        have C3 := Lib.hid (same_yes Z P mq cz cp l w6.heap.size w6.heap.size w6 (by omega) HZZ.out HP.out)
        go_wp2_with fail
        refine C3.out.mono ?_
        rintro e w7 ⟨rfl, nq, rfl⟩
        have HN : Hid (∀ i, i < mq → 0 ≤ Re.net m R l i ∧ Re.net m R l i ≤ 17592186044416) := Lib.hid fun i hi => by
          have h1 := HLB.out i hi
          have h2 := Re.acc_neg l (Re.frN R) (fun j => -Re.ceds R l j) 1073741824 m i (fun j _ => by have := Re.ceds_bound R l j; omega) (by omega)
          exact ⟨Re.net_nonneg HV.out i hi h1.1, by unfold Re.net; omega⟩
        have HSUM : Hid (Re.tot (fun i => Re.net m R l i - o i) mq = 0) := Lib.hid (Re.net_sum HV.out fun i _ => HL.out i)
        have HTB : Hid (∀ k, k ≤ mq → -17592454479871 * k ≤ Re.tot (fun i => Re.net m R l i - o i) k ∧ Re.tot (fun i => Re.net m R l i - o i) k ≤ 17592454479871 * k) := Lib.hid fun k hk => Re.tot_bound _ 17592454479871 k fun i hi => by have h1 := HN.out i (by omega); have h2 := HOB.out i (by omega); omega
        clear C3 HP HZZ HL HLB
        go_wp2_with fail
        go_loopw [13, 14, 78] (fun s _ i wr => ∃ k : Nat, k ≤ mq ∧ i = .int .i64 k ∧ s = .int .i64 (Re.tot (fun i => Re.net m R l i - o i) k) ∧ ∃ nn, wr = w6.drewN nn) (fun _ _ i _ => mq - (intOf i).toNat)
        case atStart => exact ⟨0, Nat.zero_le _, rfl, rfl, nq, rfl⟩
        case round =>
          obtain ⟨k, hk, rfl, rfl, nn, rfl⟩ := hrel
          by_cases hlt2 : k < mq
          · obtain ⟨b1, f1, rfl, _, hc1⟩ := HQ.out.get hlt2
            obtain ⟨_, _, e3, _, hc2⟩ := HRN.out.own.get hlt2
            simp only [Option.some.injEq, Addr.mk.injEq, and_true] at e3
            obtain ⟨rfl, rfl⟩ := e3
            rw [Nat.zero_add] at hc2
            obtain ⟨u, hu⟩ : ∃ u, Re.net m R l k = u := ⟨_, rfl⟩
            obtain ⟨v, hv⟩ : ∃ v, o k = v := ⟨_, rfl⟩
            have hub := HN.out k hlt2
            have hvb := HOB.out k hlt2
            have htb := HTB.out k hk
            obtain ⟨s, hs⟩ : ∃ s, Re.tot (fun i => Re.net m R l i - o i) k = s := ⟨_, rfl⟩
            have HS : Hid (Re.tot (fun i => Re.net m R l i - o i) (k + 1) = s + (u - v)) := Lib.hid (by rw [Re.tot, hs, hu, hv])
            rw [hu] at hc1 hub
            rw [hv] at hc2 hvb
            rw [hs] at htb ⊢
            obtain ⟨hu0, hu1⟩ := hub
            obtain ⟨hv0, hv1⟩ := hvb
            have hsb : -87962272399360 ≤ s ∧ s ≤ 87962272399360 := by omega
            obtain ⟨hs0, hs1⟩ := hsb
            have hq0 : (0 : Int) ≤ k := by omega
            have hq1 : (k : Int) < mq := by omega
            have hw1 : IntKind.i64.wrap (u - v) = u - v := by rw [IntKind.wrap_i64]; omega
            have hw2 : IntKind.i64.wrap (s + (u - v)) = s + (u - v) := by rw [IntKind.wrap_i64]; omega
            clear hu hv hs htb
            go_wp2_with fail
            go_quiet (fail)
            go_wp2_with fail
            go_roundw
            case rel => exact ⟨k + 1, by omega, by go_num, by rw [HS.out], _, by first | rfl | exact World.drewN_drewN _ _ _⟩
            case measure => simp [intOf]; omega
          · have hkn : k = mq := by omega
            subst hkn
            rw [HSUM.out]
            go_wp2_with fail
            go_roundw
            case rel => exact ⟨j + 1, by omega, by go_num, Lib.hid (HRN.out.drewN nn)⟩
            case measure => simp [intOf]; omega
      · have HB := Lib.hid HRN.out.bel
        go_wp2_with (first | (go_at_call 9; refine (awake39_any _).mono ?_; rintro e w99 ⟨rfl, hb99⟩))
        go_ret
        exact ⟨rfl, HB.out.trans (hb99.mono HB.out.size)⟩
  · have hst : Re.cst n 0 s1 s2 = 3 := by rw [Re.cst, if_neg (by simp), if_neg hbo]
    obtain rfl : mm = 0 := by rw [HMM.out, if_neg hbo]
    rw [hst]
    obtain ⟨q1, hq1⟩ : ∃ q, Re.crn 0 s1 s2 (Re.rnd s1) = q := ⟨_, rfl⟩
    obtain ⟨q2, hq2⟩ : ∃ q, Re.crn 0 s1 s2 (Re.rnd s2) = q := ⟨_, rfl⟩
    rw [hq1, hq2]
    clear hst hbo HMM HS1 HS2 HX HY HV
    go_wp2_with (first | (go_at_call 9; refine (awake39_any _).mono ?_; rintro e w99 ⟨rfl, hb99⟩))
    go_ret
    exact ⟨rfl, (HB.out.alloc hz3 _).trans (hb99.mono (by simp; omega))⟩

set_option maxRecDepth 100000 in
theorem lifted (os : Os) (started : os.Started) (H : Type) (enc : TypeId × Value → H) :
    ReturnsInHanded {} Try.checked os 8 .any (Rows.retroSolutionsSpec.pre6 enc Try.prog Try.f8 Rows.retroSolutionsRow.domain false) (Rows.retroSolutionsSpec.post enc Try.prog Try.f8 false true false false) := by
  refine returnsInHanded_of_change (C := Try.checked) own started (by kernel_rfl) Try.func8
    (ChangeSpec.witness6 (enc := enc) (C := Try.checked) false ⟨#[], #[.slice none 0 0], []⟩ 8 (by kernel_rfl) (by kernel_rfl) (by kernel_rfl) (by kernel_rfl)) ?_
  intro W base args ds gs before hval0 hW hcnd _
  have hval : ∀ (j : Nat) t v, Try.f8.params[j]? = some t → args[j]? = some v → Value.okWide Try.prog W .any base t v := hval0
  have hW' := hW
  obtain ⟨p, q, hA0, hV, rfl, hfz, hnd⟩ := hW
  have hA : DataW.TrodAll enc Try.prog W 0 (fun _ => true) true Try.f8.params.toList args.toList ds p := hA0
  rw [Try.params8] at hA hval
  obtain ⟨v0, vs0, d0, ds0, p0, q0, hargs, rfl, rfl, h0, r0⟩ := trodAll_cons hA
  obtain ⟨rfl, rfl, rfl⟩ := trodAll_nil r0
  obtain rfl : args = #[v0] := by cases args; simp_all
  obtain ⟨rfl, rfl⟩ := trodVars_none hV
  have k0 := h0
  have lt0 : ∀ x ∈ p0, x.block < W.heap.size := by obtain ⟨m, hm⟩ := k0; exact DataW.trod_lt m _ _ _ hm
  obtain ⟨a0, len0, cap0, rfl⟩ := okWide_slice Try.underlying22 (hval 0 22 v0 rfl rfl)
  have r100 : Rd22 W [.slice a0 len0 cap0] := by obtain ⟨fuel, hf⟩ := h0; exact rd22 hf
  clear hA0 hval0
  refine (walk _ W r100).mono fun e W' ⟨he, bel⟩ => ?_
  subst he
  exact ⟨_, rfl, _, _, _, [], _, [], hW', trodAll_mk1 (shut_bool Try.underlying4 _), (trodAll_cons_mk (Below.trod laidOut (by kernel_rfl) (of_decide_eq_true (by kernel_rfl)) k0 bel lt0) trodAll_mk0), rfl, bel.frame _, fun h => by cases h⟩

theorem over : Rows.retroSolutionsRow.holds Try.pinned (OpenSpec.ofChange Rows.retroSolutionsSpec) :=
  OpenClaim.holds_of_wide 8 Try.f8 rfl rfl rfl rfl rfl rfl rfl ⟨rfl, rfl, rfl, rfl, rfl⟩ rfl rfl rfl rfl rfl (by kernel_rfl) Try.func8 (by kernel_rfl)
    (of_decide_eq_true (by kernel_rfl)) (by unfold Func.isWrapper; first | (rw [if_pos (by decide +kernel)]; kernel_rfl) | (rw [if_neg (by decide +kernel)]; exact ⟨rfl, rfl⟩))
    (fun os started H enc _ => lifted os started H enc)

/-- the statement -/
theorem proved : Rows.RetroSolutionsSaid := over
#print axioms proved
end Go.Proofs.Ytdfajopniflaaaa.retroSolutions
