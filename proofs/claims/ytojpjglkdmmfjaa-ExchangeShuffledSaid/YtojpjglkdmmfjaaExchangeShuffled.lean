/- The law ExchangeShuffled: a balance does not depend on the order of the amounts. No condition. -/
import Derived.Test.YtojpjglkdmmfjaaRows
import Derived.Test.YtojpjglkdmmfjaaRead
import Derived.Test.YtojpjglkdmmfjaaXnP
import Derived.Test.YtojpjglkdmmfjaaXnO
import Derived.Test.YtojpjglkdmmfjaaXcD
import Derived.Test.YtojpjglkdmmfjaaArgs
import Derived.WalkKit
import Derived.ProofKit
import Derived.OpenShut
import Derived.ShutString
import Derived.ChangeOld
import Derived.Below
namespace Go.Proofs.Ytojpjglkdmmfjaa.exchangeShuffled
open Go.ChangeShapes Go.WideShapes Go.ChangeAt Go.RowKit
set_option linter.unusedVariables false

theorem own : ownKnob Try.prog.godebug = none := by kernel_rfl
theorem laidOut : laidOutB Try.prog = true := by kernel_rfl

theorem pairs_congr {w : World} {B n : Nat} {A : Option Addr} {f g f' g' : Nat → Int} (h : Pairs w B A n f g) (e : ∀ j, j < n → f j = f' j ∧ g j = g' j) : Pairs w B A n f' g' := Cells.congr h fun j hj => by
  unfold pairAt
  obtain ⟨e1, e2⟩ := e (j / 2) (by omega)
  rw [e1, e2]
/-- the first i of the shuffled ones -/
def shuf (ps : List (Int × Int)) (P : Nat → Int) (i : Nat) : List (Int × Int) := (List.range i).map fun j => (fstOf ps (P j).toNat, sndOf ps (P j).toNat)
theorem shuf_succ (ps : List (Int × Int)) (P : Nat → Int) (i : Nat) : shuf ps P (i + 1) = shuf ps P i ++ [(fstOf ps (P i).toNat, sndOf ps (P i).toNat)] := by simp [shuf, List.range_succ]
theorem shuf_length (ps : List (Int × Int)) (P : Nat → Int) (i : Nat) : (shuf ps P i).length = i := by simp [shuf]
theorem shuf_at (ps : List (Int × Int)) (P : Nat → Int) (i j : Nat) (h : j < i) : fstOf (shuf ps P i) j = fstOf ps (P j).toNat ∧ sndOf (shuf ps P i) j = sndOf ps (P j).toNat := by
  have e : (shuf ps P i).getD j (0, 0) = (fstOf ps (P j).toNat, sndOf ps (P j).toNat) := by simp [shuf, List.getD, h]
  exact ⟨by show ((shuf ps P i).getD j (0, 0)).1 = _; rw [e], by show ((shuf ps P i).getD j (0, 0)).2 = _; rw [e]⟩
theorem mem_at (ps : List (Int × Int)) (j : Nat) (h : j < ps.length) : (fstOf ps j, sndOf ps j) ∈ ps := by
  have e : ps.getD j (0, 0) = ps[j] := by simp [List.getD, List.getElem?_eq_getElem h]
  unfold fstOf sndOf
  rw [e]
  exact List.getElem_mem h

set_option maxHeartbeats 4000000 in
set_option maxRecDepth 100000 in
theorem walk (v0 : Value) (v1 : Value) (w : World) (h0 : Rd22 w [v0]) (h1 : Rd22 w [v1]) :
    Calls Try.prog 7 #[v0, v1] w fun e w' => e = .returned (.bool true) ∧ Below w.heap.size w w' := by
  obtain ⟨A, n, c, z, rfl, hn, _, _, hc, _⟩ := rd_ints h0
  obtain ⟨A2, n2, c2, z2, rfl, hn2, _, _, hc2, _⟩ := rd_ints h1
  have HC := Lib.hid hc
  have HC2 := Lib.hid hc2
  clear h0 h1 hc hc2
  obtain ⟨i0, hi0, hz0, hz1, hz2⟩ := info_parts cash_info
  have HI := Lib.hid hi0
  have HZ0 := Lib.hid hz0
  have HZ1 := Lib.hid hz1
  have HZ2 := Lib.hid hz2
  clear hi0 hz0 hz1 hz2
  go_enter Try.func7, Try.ntmps7
  go_wp2_with fail
  refine (deck_new A n c z w hn HC.out).mono ?_
  rintro e w1 ⟨rfl, hb, hd⟩
  have HB := Lib.hid hb
  have HD := Lib.hid hd
  clear hb hd HC
  go_wp2_with fail
  refine (dcash_any _ 12 _ HD.out (by omega)).mono ?_
  rintro e w2 ⟨A4, c4, ps, rfl, hl4, hA4, hp4, hps, hk2, hd2, _⟩
  replace HB : Hid (Below w.heap.size w w2) := Lib.hid (HB.out.trans (hk2.below (Nat.le_refl _) HB.out.size))
  have HP4 := Lib.hid hp4
  have HPS : Hid (∀ j, j < ps.length → Xc.curP (fstOf ps j) ∧ -1073741824 ≤ sndOf ps j ∧ sndOf ps j ≤ 1073741824) := Lib.hid fun j hj => by
    have := hps _ (mem_at ps j hj)
    simp only at this
    exact ⟨⟨this.1, by omega⟩, this.2.2.1, this.2.2.2⟩
  obtain ⟨m, hm⟩ : ∃ m, ps.length = m := ⟨_, rfl⟩
  rw [hm] at HP4 HPS hl4 ⊢
  clear hk2 hd2 hp4 hps hA4 hm HD
  have hz2 := HB.out.size
  go_wp2_with fail
  refine (deck_new A2 n2 c2 z2 w2 hn2 ((HC2.out.below HB.out).mono hz2)).mono ?_
  rintro e w3 ⟨rfl, hb, hd⟩
  replace HB : Hid (Below w.heap.size w w3) := Lib.hid (HB.out.trans (hb.mono hz2))
  replace HP4 := Lib.hid (HP4.out.below hb)
  have HD := Lib.hid hd
  have hz3 := hb.size
  obtain ⟨H, hH⟩ : ∃ H, w2.heap.size = H := ⟨_, rfl⟩
  rw [hH] at HP4 HD hz2 hz3 ⊢
  clear hb hd HC2 hH
  go_wp2_with fail
  refine (dorder_any _ m _ HD.out (by omega)).mono ?_
  rintro e w4 ⟨G, P, rfl, hG, hnu, hpm, hk2, hd2⟩
  have hbk : Below H w3 w4 := hk2.below (Nat.le_refl _) hz3
  replace HB : Hid (Below w.heap.size w w4) := Lib.hid (HB.out.trans (hbk.mono hz2))
  replace HP4 := Lib.hid (HP4.out.below hbk)
  have HNU := Lib.hid hnu
  have HPM := Lib.hid hpm
  have hz4 := hbk.size
  clear hbk hnu hpm hk2 hd2 HD
  obtain ⟨base, hbase⟩ : ∃ b, w4.heap.size = b := ⟨_, rfl⟩
  have hb4 : base ≤ w4.heap.size := by omega
  have hHb : H ≤ base := by omega
  replace HP4 := Lib.hid (HP4.out.mono hHb)
  rw [hbase] at HNU
  clear hbase
  go_wp2_with fail
  go_loopw [6, 8] (fun v ix wr => ∃ i : Nat, i ≤ m ∧ ix = .int .i64 i ∧ Hid (wr.ownsRow base 37 2 v i (cellsOf (shuf ps P i))) ∧ Hid (Below base w4 wr)) (fun _ ix _ => m - (intOf ix).toNat)
  case atStart => exact ⟨0, Nat.zero_le _, rfl, Lib.hid ⟨rfl, .inl ⟨rfl, rfl⟩⟩, Lib.hid (Below.refl _ _)⟩
  case round =>
    obtain ⟨i, hi, rfl, HO, HE⟩ := hrel
    have hse := HE.out.size
    by_cases hlt : i < m
    · have hi0 : (0 : Int) ≤ i := by omega
      have hi1 : (i : Int) < m := by omega
      obtain ⟨b', o', e', _, hq0⟩ := (HNU.out.below HE.out).get hlt
      simp only [Option.some.injEq, Addr.mk.injEq, and_true] at e'
      obtain ⟨rfl, rfl⟩ := e'
      rw [Nat.zero_add] at hq0
      have hpb := HPM.out.bd i hlt
      have hsu := shuf_succ ps P i
      obtain ⟨p, hp⟩ : ∃ p : Nat, P i = p := ⟨(P i).toNat, by omega⟩
      rw [hp] at hq0 hpb
      rw [hp, Int.toNat_natCast] at hsu
      obtain ⟨b, o, rfl, had, hc0, hc1⟩ := (HP4.out.below HE.out).get (j := p) (by omega)
      obtain ⟨x, hx⟩ : ∃ x, fstOf ps p = x := ⟨_, rfl⟩
      obtain ⟨y, hy⟩ : ∃ x, sndOf ps p = x := ⟨_, rfl⟩
      rw [hx] at hc0
      rw [hy] at hc1
      rw [hx, hy] at hsu
      have HSU : Hid (cellsOf (shuf ps P (i + 1)) = cellsOf (shuf ps P i) ++ [.int .i64 x, .int .i64 y]) := Lib.hid (by rw [hsu]; exact cellsOf_snoc _ _)
      obtain ⟨hp0, hp1⟩ := hpb
      clear hx hy hsu hp
      go_wp2_with ((at_builtin; refine wpList_append_lies _ rfl _ _ 42 rfl base 37 i0 _ 2 16 Try.underlying42 HI.out HZ0.out HZ1.out HZ2.out rfl (by omega) u6 i (cellsOf (shuf ps P i)) rfl (HO.out.alloc _) ⟨wr.heap.size, 0, none⟩ 1 1 [.int .i64 x, .int .i64 y] rfl rfl (World.news_of_block (cs := #[.int .i64 x, .int .i64 y]) (t := 37) (fr := (0, 0)) (heap_alloc_new wr _)) (by simp [Value.oneCell']) (by omega) (by unfold maxLen; omega) (by omega) (by simp; omega) (wr.heap.size + 1) (by simp) ?_; intro gg cap w5 hown hgrow hat hlt5; have HO2 : Hid (w5.ownsRow base 37 2 (.slice (some ⟨gg, 0, none⟩) (i + 1) cap) (i + 1) (cellsOf (shuf ps P (i + 1)))) := Lib.hid (by rw [HSU.out]; exact hown); have HE2 : Hid (Below base w4 w5) := Lib.hid ((HE.out.alloc (by omega) _).grown hgrow (by simp; omega) fun q hq => by obtain ⟨_, _, hg⟩ := own_form HO.out hq; exact hg); clear hown hgrow hat))
      go_roundw
      case rel => exact ⟨i + 1, by omega, by go_num, HO2, HE2⟩
      case measure => simp [intOf]; omega
    · obtain rfl : i = m := by omega
      obtain ⟨A5, c5, rfl⟩ : ∃ A' cap, u6 = .slice A' i cap := by
        rcases HO.out.2 with ⟨hv, hv0⟩ | ⟨g', cap, cur, hv, _⟩
        · exact ⟨none, 0, by rw [hv, hv0]⟩
        · exact ⟨_, cap, hv⟩
      have HPY : Hid (Pairs wr wr.heap.size A5 i (fun j => fstOf ps (P j).toNat) (fun j => sndOf ps (P j).toNat)) := Lib.hid (pairs_congr (Pairs.of_own HO.out) fun j hj => shuf_at ps P i j hj)
      have HPX : Hid (Pairs wr wr.heap.size A4 i (fstOf ps) (sndOf ps)) := Lib.hid ((HP4.out.below HE.out).mono (by omega))
      replace HB : Hid (Below w.heap.size w wr) := Lib.hid (HB.out.trans (HE.out.mono (by omega)))
      have hE1 := Xn.nerr_zero (f := fstOf ps) (g := sndOf ps) (n := i) (by omega) (fun j hj => (HPS.out j hj).1) (fun j hj => (HPS.out j hj).2)
      have hE2 := Xn.nerr_zero (f := fun j => fstOf ps (P j).toNat) (g := fun j => sndOf ps (P j).toNat) (n := i) (by omega) (fun j hj => (HPS.out _ (by have := HPM.out.bd j hj; omega)).1) (fun j hj => (HPS.out _ (by have := HPM.out.bd j hj; omega)).2)
      have hBL := HPM.out.bal (fstOf ps) (sndOf ps)
      obtain ⟨l, hl⟩ : ∃ l, Xn.bal (fstOf ps) (sndOf ps) i = l := ⟨_, rfl⟩
      have hlb : l.length ≤ 16 := by rw [← hl]; exact Nat.le_trans (Xn.bals_length _ _) (by rw [Xn.cus_length]; exact Nat.le_refl _)
      have C1 : Hid (∀ W : World, Below wr.heap.size wr W → Calls Try.prog 19 #[.slice A4 i c4] W (NormPost 0 l W)) := Lib.hid fun W hb => by
        have := norm_any A4 i c4 _ _ W (by omega) ((HPX.out.below hb).mono hb.size)
        rwa [hE1, hl] at this
      have C2 : Hid (∀ W : World, Below wr.heap.size wr W → Calls Try.prog 19 #[.slice A5 i c5] W (NormPost 0 l W)) := Lib.hid fun W hb => by
        have := norm_any A5 i c5 _ _ W (by omega) ((HPY.out.below hb).mono hb.size)
        rwa [hE2, hBL, hl] at this
      clear hE1 hE2 hBL hl HPX HPY HO HP4 HNU HPM HPS HE
      go_wp2_with fail
      refine (C1.out _ (Below.refl _ _)).mono ?_
      intro e w5 hN1
      obtain ⟨X, mx, cx, rfl, hb, hmx, _, hqx⟩ := hN1
      rw [if_pos rfl] at hmx
      subst hmx
      have HX := Lib.hid (hqx rfl)
      have HE := Lib.hid hb
      clear hb hqx
      go_wp2_with fail
      refine (C2.out _ HE.out).mono ?_
      intro e w6 hN2
      obtain ⟨Y, my, cy, rfl, hb, hmy, _, hqy⟩ := hN2
      rw [if_pos rfl] at hmy
      subst hmy
      have HY := Lib.hid (hqy rfl)
      replace HX := Lib.hid ((HX.out.below hb).mono hb.size)
      replace HE : Hid (Below wr.heap.size wr w6) := Lib.hid (HE.out.trans (hb.mono HE.out.size))
      replace HB : Hid (Below w.heap.size w w6) := Lib.hid (HB.out.trans (HE.out.mono HB.out.size))
      clear hb hqy C1 C2 HE
      obtain ⟨mm, hmm⟩ : ∃ m, l.length = m := ⟨_, rfl⟩
      rw [hmm] at HX HY hlb ⊢
      clear hmm
      go_wp2_with fail
      refine (samecash_yes X Y mm cx cy _ _ _ _ _ (by omega) HX.out HY.out).mono ?_
      rintro e w7 ⟨rfl, q1, rfl⟩
      go_wp2_with (first | (go_at_call 14; refine (awake4_any _).mono ?_; rintro e w99 ⟨rfl, hb99⟩))
      go_ret
      exact ⟨rfl, (by (repeat' (first | (with_reducible exact HB.out) | (with_reducible refine below_drewN ?_ _) | (with_reducible refine Below.drew ?_))) : Below w.heap.size w _).trans (hb99.mono HB.out.size)⟩

set_option maxRecDepth 100000 in
theorem lifted (os : Os) (started : os.Started) (H : Type) (enc : TypeId × Value → H) :
    ReturnsInHanded {} Try.checked os 7 .any (Rows.exchangeShuffledSpec.pre6 enc Try.prog Try.f7 Rows.exchangeShuffledRow.domain false) (Rows.exchangeShuffledSpec.post enc Try.prog Try.f7 false true false false) := by
  refine returnsInHanded_of_change (C := Try.checked) own started (by kernel_rfl) Try.func7
    (ChangeSpec.witness6 (enc := enc) (C := Try.checked) false ⟨#[], #[.slice none 0 0, .slice none 0 0], []⟩ 8 (by kernel_rfl) (by kernel_rfl) (by kernel_rfl) (by kernel_rfl)) ?_
  intro W base args ds gs before hval0 hW hcnd _
  have hval : ∀ (j : Nat) t v, Try.f7.params[j]? = some t → args[j]? = some v → Value.okWide Try.prog W .any base t v := hval0
  have hW' := hW
  obtain ⟨p, q, hA0, hV, rfl, hfz, hnd⟩ := hW
  have hA : DataW.TrodAll enc Try.prog W 0 (fun _ => true) true Try.f7.params.toList args.toList ds p := hA0
  rw [Try.params7] at hA hval
  obtain ⟨v0, vs0, d0, ds0, p0, q0, hargs, rfl, rfl, h0, r0⟩ := trodAll_cons hA
  obtain ⟨v1, vs1, d1, ds1, p1, q1, rfl, rfl, rfl, h1, r1⟩ := trodAll_cons r0
  obtain ⟨rfl, rfl, rfl⟩ := trodAll_nil r1
  obtain rfl : args = #[v0, v1] := by cases args; simp_all
  obtain ⟨rfl, rfl⟩ := trodVars_none hV
  have k0 := h0
  have lt0 : ∀ x ∈ p0, x.block < W.heap.size := by obtain ⟨m, hm⟩ := k0; exact DataW.trod_lt m _ _ _ hm
  obtain ⟨a0, len0, cap0, rfl⟩ := okWide_slice Try.underlying22 (hval 0 22 v0 rfl rfl)
  have r100 : Rd22 W [.slice a0 len0 cap0] := by obtain ⟨fuel, hf⟩ := h0; exact rd22 hf
  have k1 := h1
  have lt1 : ∀ x ∈ p1, x.block < W.heap.size := by obtain ⟨m, hm⟩ := k1; exact DataW.trod_lt m _ _ _ hm
  obtain ⟨a1, len1, cap1, rfl⟩ := okWide_slice Try.underlying22 (hval 1 22 v1 rfl rfl)
  have r101 : Rd22 W [.slice a1 len1 cap1] := by obtain ⟨fuel, hf⟩ := h1; exact rd22 hf
  clear hA0 hval0
  refine (walk _ _ W r100 r101).mono fun e W' ⟨he, bel⟩ => ?_
  subst he
  exact ⟨_, rfl, _, _, _, [], _, [], hW', trodAll_mk1 (shut_bool Try.underlying4 _), (trodAll_cons_mk (Below.trod laidOut (by kernel_rfl) (of_decide_eq_true (by kernel_rfl)) k0 bel lt0) (trodAll_cons_mk (Below.trod laidOut (by kernel_rfl) (of_decide_eq_true (by kernel_rfl)) k1 bel lt1) trodAll_mk0)), rfl, bel.frame _, fun h => by cases h⟩

theorem over : Rows.exchangeShuffledRow.holds Try.pinned (OpenSpec.ofChange Rows.exchangeShuffledSpec) :=
  OpenClaim.holds_of_wide 7 Try.f7 rfl rfl rfl rfl rfl rfl rfl ⟨rfl, rfl, rfl, rfl, rfl⟩ rfl rfl rfl rfl rfl (by kernel_rfl) Try.func7 (by kernel_rfl)
    (of_decide_eq_true (by kernel_rfl)) (by unfold Func.isWrapper; first | (rw [if_pos (by decide +kernel)]; kernel_rfl) | (rw [if_neg (by decide +kernel)]; exact ⟨rfl, rfl⟩))
    (fun os started H enc _ => lifted os started H enc)

/-- the statement -/
theorem proved : Rows.ExchangeShuffledSaid := over
#print axioms proved
end Go.Proofs.Ytojpjglkdmmfjaa.exchangeShuffled
