/- One endorsement, and a wording: the program's check. A wording: valid, of the program and of the reference. The reference's comparisons: the same expressions are the same. -/
import Derived.Test.YtlbkhhbbkedhkaaGreatDoorMa09
import Derived.Deep.RegionHeld3
import Derived.Deep.RegionLaw
import Derived.StillTailTactics
namespace Go.Proofs.YtlbkhhbbkedhkaaGreatDoor
open Go.RowKit
set_option linter.unusedVariables false

def En.ok (b : En) : Prop := ((0 ≤ b.pf ∧ b.pf < b.pt ∧ b.pt ≤ 876599) ∧ b.nr ≤ 40) ∧ (namesP b.nr b.rm ∧ distP b.nr b.rm) ∧ clsP b.nc b.cs
def Wr.ok (x : Wr) : Prop := (x.ne ≤ 12 ∧ clsP x.nc x.cs) ∧ ∀ i, i < x.ne → (x.es i).ok
def En.cells (b : En) (a : NA) : Array Value := #[.int .i64 b.pf, .int .i64 b.pt, .slice a.Ar b.nr a.cr, .slice a.Ac b.nc a.cc]
theorem En.cells_get (b : En) (a : NA) (k : Nat) (hk : k < 4) : (b.cells a).toList[k]? = some (b.cell a k) := by
  match k, hk with
  | 0, _ | 1, _ | 2, _ | 3, _ => rfl
  | k + 4, h => omega
theorem En.range {w : World} {b o : Nat} {e : En} {a : NA} (h : ∀ k, k < 4 → w.cell? ⟨b, o + k, none⟩ = some (e.cell a k)) : w.rangeAt b o (e.cells a).toList := fun k v hk => by
  have h8 : k < 4 := by
    rcases Nat.lt_or_ge k 4 with h | h
    · exact h
    · rw [List.getElem?_eq_none (by simpa [En.cells] using h)] at hk; cases hk
  rw [En.cells_get e a k h8] at hk
  injection hk with hk
  rw [← hk]
  exact h k h8
set_option maxRecDepth 100000 in
theorem en_info : (Tryz.prog.info? 49).map (·.size) = some 4 := by kernel_rfl
/-- an endorsement of a list, in a later world -/
theorem EnsAt.later {w wr : World} {B B' : Nat} {A : Option Addr} {n : Nat} {es : Nat → En} (h : EnsAt w B A n es) (hb : Below B w wr) (hB : B ≤ B') {k : Nat} (hk : k < n) :
    ∃ pa b o, A = some ⟨b, o, none⟩ ∧ b < B ∧ EnAt wr B' (es k) pa ∧ wr.rangeAt b (o + k * 4) ((es k).cells pa).toList := by
  obtain ⟨_, P, hc, he⟩ := h
  obtain ⟨b, o, e, hbl, hcc⟩ := Cells.elem (F := fun i k => (es i).cell (P i) k) (by omega) hc hk
  exact ⟨P k, b, o, e, hbl, (he k hk).below hb hB, En.range fun j hj => by rw [hb.cell (p := ⟨b, o + k * 4 + j, none⟩) hbl]; exact hcc j hj⟩

set_option maxRecDepth 100000 in
set_option maxHeartbeats 4000000 in
theorem endorsement_any (b : En) (a : NA) (w : World) (ht : Tab w) (h : EnAt w w.heap.size b a) : Calls Tryz.prog 41 #[.agg (b.cells a)] w (IffPost b.ok w) := by
  obtain ⟨pf, pt, nr, rm, nc, cs⟩ := b
  obtain ⟨Ar, cr, Ac, cc⟩ := a
  obtain ⟨⟨hnr, hcr⟩, hst, hcl⟩ := h
  have HTB := Lib.hid ht
  have HST := Lib.hid hst
  have HCL := Lib.hid hcl
  have hpos := ht.pos
  simp only at hnr hcr HST HCL
  unfold big at hnr
  clear ht hst hcl
  unfold En.cells
  simp only
  obtain ⟨OK, hOK⟩ : ∃ P, (En.mk pf pt nr rm nc cs).ok = P := ⟨_, rfl⟩
  have HQ : Hid (OK ↔ ((0 ≤ pf ∧ pf < pt ∧ pt ≤ 876599) ∧ nr ≤ 40) ∧ (namesP nr rm ∧ distP nr rm) ∧ clsP nc cs) := Lib.hid (by rw [← hOK]; exact Iff.rfl)
  rw [hOK]
  clear hOK
  obtain ⟨pb, hpb⟩ : ∃ z, perB pf pt = z := ⟨_, rfl⟩
  have C1 : Hid (∀ W, Calls Tryz.prog 48 #[.agg #[.int .i64 pf, .int .i64 pt]] W (BolPost pb W)) := Lib.hid fun W => by rw [← hpb]; exact period_any pf pt W
  have HPB : Hid (pb = true ↔ (0 ≤ pf ∧ pf < pt ∧ pt ≤ 876600)) := Lib.hid (by rw [← hpb]; exact decide_eq_true_iff)
  clear hpb
  go_enter Tryz.func41, Tryz.ntmps41
  go_upto_region 1 with (fail)
  have HB : Hid (Below w.heap.size w (w.alloc (.cells #[.int .i64 pf, .int .i64 pt, .slice Ar nr cr, .slice Ac nc cc] 49))) := Lib.hid ((Below.refl _ _).alloc (Nat.le_refl _) _)
  have HE := Lib.hid (Has.new w #[.int .i64 pf, .int .i64 pt, .slice Ar nr cr, .slice Ac nc cc] 49)
  obtain ⟨W, hW⟩ : ∃ W, w.alloc (.cells #[.int .i64 pf, .int .i64 pt, .slice Ar nr cr, .slice Ac nc cc] 49) = W := ⟨_, rfl⟩
  rw [hW] at HB HE ⊢
  clear hW
  obtain ⟨G, hG⟩ : ∃ G, w.heap.size = G := ⟨_, rfl⟩
  have HGE := Lib.hid hG
  rw [hG] at HE ⊢
  clear hG
  obtain ⟨e0, e1, e2⟩ := HE.out.rules
  go_wp2_with fail
  refine (C1.out _).mono ?_
  rintro e w1 ⟨rfl, hb⟩
  replace HE := Lib.hid (HE.out.below hb HE.out.lt)
  replace HB : Hid (Below w.heap.size w w1) := Lib.hid (HB.out.trans (hb.mono HB.out.size))
  clear hb C1 e0 e1 e2
  obtain ⟨e0, e1, e2⟩ := HE.out.rules
  cases pb with
  | false =>
    go_wp2_with fail
    go_ret
    exact IffPost.no (fun c => by have := (HQ.out.1 c).1.1; have := HPB.out.2 (by omega); cases this) HB.out
  | true =>
    have hp := HPB.out.1 (by trivial)
    have HP := Lib.hid hp
    clear HPB hp
    by_cases h1 : 876599 < pt
    · go_wp2_with fail
      go_ret
      exact IffPost.no (fun c => by have := (HQ.out.1 c).1.1; omega) HB.out
    have h1' : pt ≤ 876599 := by omega
    by_cases h2 : 40 < nr
    · have h2' : (40 : Int) < nr := by omega
      go_wp2_with fail
      go_ret
      exact IffPost.no (fun c => by have := (HQ.out.1 c).1.2; omega) HB.out
    have h2' : (nr : Int) ≤ 40 := by omega
    have HQ2 : Hid (OK ↔ (namesP nr rm ∧ distP nr rm) ∧ clsP nc cs) := Lib.hid ⟨fun c => (HQ.out.1 c).2, fun c => HQ.out.2 ⟨⟨⟨HP.out.1, HP.out.2.1, h1'⟩, by omega⟩, c⟩⟩
    clear HQ HP
    have hcap' : (nr : Int) ≤ cr := by omega
    go_wp2_with fail
    go_loopw [3, 4, 24] (fun x3 x4 i wr => wr = w1 ∧ ∃ k : Nat, k ≤ nr ∧ i = .int .i64 k ∧ Hid (namesP k rm ∧ distP k rm)) (fun _ _ i _ => nr - (intOf i).toNat)
    case atStart => exact ⟨rfl, 0, Nat.zero_le _, rfl, Lib.hid ⟨fun i hi => by omega, fun i hi => by omega⟩⟩
    case round =>
      obtain ⟨rfl, k, hk, rfl, HK⟩ := hrel
      by_cases hlt : k < nr
      · obtain ⟨b, o, rfl, hbl, hc⟩ := Strs.get (Cells.below HST.out HB.out) hlt
        have hc0 := hc k hlt
        have hk0 : (0 : Int) ≤ k := by omega
        have hk1 : (k : Int) < nr := by omega
        have hk2 : (k : Int) ≤ cr := by omega
        obtain ⟨s, hs⟩ : ∃ s, rm k = s := ⟨_, rfl⟩
        rw [hs] at hc0
        have HS := Lib.hid hs
        have HCN : Hid (Calls Tryz.prog 69 #[.slice (some ⟨b, o, none⟩) k cr, .string s] wr fun e w' => e = .returned (.bool (Lib.containsS (((List.range k).map rm).take k) s)) ∧ w' = wr) :=
          Lib.hid (Tryz.slices_Contains_string b o k cr ((List.range k).map rm) s wr (by simp) (by omega) fun j hj => by
            have hj' : j < k := by simpa using hj
            have := hc j (by omega)
            rw [this]
            simp [List.getD, hj'])
        clear hc hs
        cases hb : nameB s with
        | true =>
          obtain ⟨q, hq⟩ : ∃ q, Lib.containsS (((List.range k).map rm).take k) s = q := ⟨_, rfl⟩
          have HQQ : Hid (q = true ↔ ∃ t, t < k ∧ rm t = s) := Lib.hid (by rw [← hq]; exact containsS_range)
          rw [hq] at HCN
          clear hq
          cases q with
          | true =>
            go_wp2_with (first | (go_at_call 68; refine (name_any _ _).mono ?_; rintro e w' ⟨rfl, rfl⟩) | (go_at_call 69; refine HCN.out.mono ?_; rintro e w' ⟨rfl, rfl⟩))
            go_ret
            obtain ⟨t, ht, hts⟩ := HQQ.out.1 (by trivial)
            exact IffPost.no (fun c => (HQ2.out.1 c).1.2 k hlt t ht (by rw [HS.out, hts])) HB.out
          | false =>
            go_wp2_with (first | (go_at_call 68; refine (name_any _ _).mono ?_; rintro e w' ⟨rfl, rfl⟩) | (go_at_call 69; refine HCN.out.mono ?_; rintro e w' ⟨rfl, rfl⟩))
            go_roundw
            case rel => exact ⟨by trivial, k + 1, by omega, by go_num, Lib.hid ⟨fun i hi => by
              by_cases e : i = k
              · rw [e, HS.out, hb]
              · exact HK.out.1 i (by omega), fun i hi t ht => by
              by_cases e : i = k
              · subst e
                rw [HS.out]
                exact fun c => by have := HQQ.out.2 ⟨t, ht, c.symm⟩; cases this
              · exact HK.out.2 i (by omega) t ht⟩⟩
            case measure => simp [intOf]; omega
        | false =>
          go_wp2_with (first | (go_at_call 68; refine (name_any _ _).mono ?_; rintro e w' ⟨rfl, rfl⟩))
          go_ret
          exact IffPost.no (fun c => by have := (HQ2.out.1 c).1.1 k hlt; rw [HS.out, hb] at this; cases this) HB.out
      · have hkn : k = nr := by omega
        subst hkn
        have hd : decide ((k : Int) < k) = false := by rw [decide_eq_false_iff_not]; omega
        have HCALL := Lib.hid (clauses_any Ac nc cc cs wr (HTB.out.below HB.out hpos) (HCL.out.below HB.out HB.out.size))
        go_wp2_with fail
        refine HCALL.out.mono ?_
        rintro e w2 ⟨b, rfl, hbe, hb2⟩
        have HBE := Lib.hid hbe
        replace HB : Hid (Below w.heap.size w w2) := Lib.hid (HB.out.trans (hb2.mono HB.out.size))
        clear hbe hb2 HCALL e0 e1 e2 HE
        go_wp2_with fail
        go_ret
        exact ⟨b, rfl, HBE.out.trans ⟨fun c => HQ2.out.2 ⟨HK.out, c⟩, fun c => (HQ2.out.1 c).2⟩, HB.out⟩
end Go.Proofs.YtlbkhhbbkedhkaaGreatDoor
namespace Go.Proofs.YtlbkhhbbkedhkaaGreatDoor
open Go.RowKit
set_option linter.unusedVariables false

set_option maxRecDepth 100000 in
set_option maxHeartbeats 4000000 in
theorem wvalid_any (x : Wr) (A E : Option Addr) (ca ce : Nat) (w : World) (ht : Tab w) (h : WrAt w w.heap.size x A E) : Calls Tryz.prog 20 #[.agg #[.slice A x.nc ca, .slice E x.ne ce]] w (IffPost x.ok w) := by
  obtain ⟨nc, cs, ne, es⟩ := x
  obtain ⟨hcl, hen⟩ := h
  simp only at hcl hen ⊢
  have HTB := Lib.hid ht
  have HCL := Lib.hid hcl
  have HEN := Lib.hid hen
  have HNI := Lib.hid en_info
  have hpos := ht.pos
  have hne := hen.1
  have hnc := hcl.1
  unfold big at hne hnc
  clear ht hcl hen
  obtain ⟨OK, hOK⟩ : ∃ P, (Wr.mk nc cs ne es).ok = P := ⟨_, rfl⟩
  have HQ : Hid (OK ↔ (ne ≤ 12 ∧ clsP nc cs) ∧ ∀ i, i < ne → (es i).ok) := Lib.hid (by rw [← hOK]; exact Iff.rfl)
  rw [hOK]
  clear hOK
  go_enter Tryz.func20, Tryz.ntmps20
  go_upto_region 1 with (fail)
  have HB : Hid (Below w.heap.size w (w.alloc (.cells #[.slice A nc ca, .slice E ne ce] 25))) := Lib.hid ((Below.refl _ _).alloc (Nat.le_refl _) _)
  have HE := Lib.hid (Has.new w #[.slice A nc ca, .slice E ne ce] 25)
  obtain ⟨W, hW⟩ : ∃ W, w.alloc (.cells #[.slice A nc ca, .slice E ne ce] 25) = W := ⟨_, rfl⟩
  rw [hW] at HB HE ⊢
  clear hW
  obtain ⟨G, hG⟩ : ∃ G, w.heap.size = G := ⟨_, rfl⟩
  have HGE := Lib.hid hG
  rw [hG] at HE ⊢
  clear hG
  obtain ⟨e0, e1, e2⟩ := HE.out.rules
  by_cases h1 : 12 < ne
  · have h1' : (12 : Int) < ne := by omega
    go_wp2_with fail
    go_ret
    exact IffPost.no (fun c => by have := (HQ.out.1 c).1.1; omega) HB.out
  have h1' : (ne : Int) ≤ 12 := by omega
  have HC1 := Lib.hid (clauses_any A nc ca cs W (HTB.out.below HB.out hpos) (HCL.out.below HB.out HB.out.size))
  go_wp2_with fail
  refine HC1.out.mono ?_
  rintro e w1 ⟨b, rfl, hbe, hb⟩
  have HBE := Lib.hid hbe
  replace HE := Lib.hid (HE.out.below hb HE.out.lt)
  replace HB : Hid (Below w.heap.size w w1) := Lib.hid (HB.out.trans (hb.mono HB.out.size))
  clear hb hbe HC1 e0 e1 e2
  obtain ⟨e0, e1, e2⟩ := HE.out.rules
  cases b with
  | false =>
    go_wp2_with fail
    go_ret
    exact IffPost.no (fun c => by have := HBE.out.2 (HQ.out.1 c).1.2; cases this) HB.out
  | true =>
    have HQ2 : Hid (OK ↔ ∀ i, i < ne → (es i).ok) := Lib.hid ⟨fun c => (HQ.out.1 c).2, fun c => HQ.out.2 ⟨⟨by omega, HBE.out.1 (by trivial)⟩, c⟩⟩
    clear HQ HBE
    go_wp2_with fail
    go_loopw [18] (fun i wr => ∃ k : Nat, k ≤ ne ∧ i = .int .i64 k ∧ Hid (Below w.heap.size w wr) ∧ Hid (∀ i, i < k → (es i).ok)) (fun i _ => ne - (intOf i).toNat)
    case atStart => exact ⟨0, Nat.zero_le _, rfl, HB, Lib.hid fun i hi => by omega⟩
    case round =>
      clear HB HE e0 e1 e2
      obtain ⟨k, hk, rfl, HB, HA⟩ := hrel
      by_cases hlt : k < ne
      · obtain ⟨pa, bb, o, hAa, _, hxk, hrg⟩ := HEN.out.later HB.out HB.out.size hlt
        subst hAa
        have HRG := Lib.hid hrg
        have HC1 : Hid (((es k).cells pa).toList.all (·.oneCell') = true) := Lib.hid rfl
        have HCS : Hid (((es k).cells pa).size = 4) := Lib.hid rfl
        have HCALL : Hid (∀ W, Below wr.heap.size wr W → Calls Tryz.prog 41 #[.agg ((es k).cells pa)] W (IffPost (es k).ok W)) := Lib.hid fun W hb => endorsement_any (es k) pa W (HTB.out.below (HB.out.trans (hb.mono HB.out.size)) hpos) (hxk.below hb hb.size)
        obtain ⟨y, hy⟩ : ∃ y, es k = y := ⟨_, rfl⟩
        have HYY := Lib.hid hy
        rw [hy] at HRG HC1 HCALL HCS
        obtain ⟨Y, hY⟩ : ∃ Y, y.cells pa = Y := ⟨_, rfl⟩
        rw [hY] at HRG HC1 HCALL HCS
        have hk0 : (0 : Int) ≤ k := by omega
        have hk1 : (k : Int) < ne := by omega
        clear hxk hrg hy hY
        go_upto_region 6 with (first
          | (refine wpList_load_mid ?_ 49 (.tmp 20) ?_ bb (o + k * 4) ?_ _ _ HRG.out Tryz.underlying49 ?_ (by rw [Array.length_toList, HCS.out]; exact HNI.out) ?_; rfl; rfl; rfl; rfl)
          | (refine wpList_store_has ?_ 49 (.tmp 4) (.tmp 21) ?_ wr.heap.size ?_ Y ?_ _ _ (Has.new wr _ _) (by rw [HCS.out]; exact HNI.out) (by rw [HCS.out]; rfl) HC1.out ?_; rfl; rfl; rfl; rfl; intro w4 hh4 hl4))
        have hb4 : Below wr.heap.size wr w4 := ((Below.refl _ _).alloc (Nat.le_refl _) _).trans (hl4.below (fun k hk => by omega) (by simp))
        have HY := Lib.hid hh4
        have HC := Lib.hid (HCALL.out w4 hb4)
        have hs := HB.out.size
        replace HB : Hid (Below w.heap.size w w4) := Lib.hid (HB.out.trans (hb4.mono hs))
        obtain ⟨G', hG⟩ : ∃ G, wr.heap.size = G := ⟨_, rfl⟩
        rw [hG] at HY ⊢
        clear hG hb4 hh4 hl4 HRG HCALL HC1 hs
        go_wp2_with ((refine wpList_load_has ?_ 49 (.tmp 4) ?_ G' ?_ _ _ _ HY.out Tryz.underlying49 ?_ (by rw [HCS.out]; exact HNI.out) ?_; rfl; rfl; rfl; rfl))
        refine HC.out.mono ?_
        rintro e w5 ⟨b, rfl, hbe, hb5⟩
        have HBE := Lib.hid hbe
        replace HB : Hid (Below w.heap.size w w5) := Lib.hid (HB.out.trans (hb5.mono HB.out.size))
        clear hbe hb5 HC HY
        cases b with
        | false =>
          go_wp2_with fail
          go_ret
          exact IffPost.no (fun c => by have := HQ2.out.1 c k hlt; rw [HYY.out] at this; have := HBE.out.2 this; cases this) HB.out
        | true =>
          have hp := HBE.out.1 (by trivial)
          have HP := Lib.hid hp
          clear hp HBE
          go_wp2_with fail
          go_roundw
          case rel => exact ⟨k + 1, by omega, by go_num, HB, Lib.hid fun i hi => by
            by_cases e : i = k
            · subst e; rw [HYY.out]; exact HP.out
            · exact HA.out i (by omega)⟩
          case measure => simp [intOf]; omega
      · have hkn : k = ne := by omega
        subst hkn
        have hdd : decide ((k : Int) < k) = false := by rw [decide_eq_false_iff_not]; omega
        go_wp2_with fail
        go_ret
        exact IffPost.yes (HQ2.out.2 HA.out) HB.out

set_option maxRecDepth 100000 in
set_option maxHeartbeats 8000000 in
theorem rwording_any (x : Wr) (A E : Option Addr) (ca ce : Nat) (w : World) (h : WrAt w w.heap.size x A E) : Calls Tryz.prog 23 #[.agg #[.slice A x.nc ca, .slice E x.ne ce]] w (IffPost x.ok w) := by
  obtain ⟨nc, cs, ne, es⟩ := x
  obtain ⟨hcl, hen⟩ := h
  simp only at hcl hen ⊢
  have HCL := Lib.hid hcl
  have HEN := Lib.hid hen
  have HNI := Lib.hid en_info
  have hne := hen.1
  have hnc := hcl.1
  unfold big at hne hnc
  clear hcl hen
  obtain ⟨OK, hOK⟩ : ∃ P, (Wr.mk nc cs ne es).ok = P := ⟨_, rfl⟩
  have HQ : Hid (OK ↔ (ne ≤ 12 ∧ clsP nc cs) ∧ ∀ i, i < ne → (es i).ok) := Lib.hid (by rw [← hOK]; exact Iff.rfl)
  rw [hOK]
  clear hOK
  go_enter Tryz.func23, Tryz.ntmps23
  go_upto_region 1 with (fail)
  have HB : Hid (Below w.heap.size w (w.alloc (.cells #[.slice A nc ca, .slice E ne ce] 25))) := Lib.hid ((Below.refl _ _).alloc (Nat.le_refl _) _)
  have HE := Lib.hid (Has.new w #[.slice A nc ca, .slice E ne ce] 25)
  obtain ⟨W, hW⟩ : ∃ W, w.alloc (.cells #[.slice A nc ca, .slice E ne ce] 25) = W := ⟨_, rfl⟩
  rw [hW] at HB HE ⊢
  clear hW
  obtain ⟨G, hG⟩ : ∃ G, w.heap.size = G := ⟨_, rfl⟩
  have HGE := Lib.hid hG
  rw [hG] at HE ⊢
  clear hG
  obtain ⟨e0, e1, e2⟩ := HE.out.rules
  by_cases h1 : 12 < ne
  · have h1' : (12 : Int) < ne := by omega
    go_wp2_with fail
    go_ret
    exact IffPost.no (fun c => by have := (HQ.out.1 c).1.1; omega) HB.out
  have h1' : (ne : Int) ≤ 12 := by omega
  have HC1 := Lib.hid (rclauses_any A nc ca cs W (HCL.out.below HB.out HB.out.size))
  go_wp2_with fail
  refine HC1.out.mono ?_
  rintro e w1 ⟨b, rfl, hbe, hb⟩
  have HBE := Lib.hid hbe
  replace HE := Lib.hid (HE.out.below hb HE.out.lt)
  replace HB : Hid (Below w.heap.size w w1) := Lib.hid (HB.out.trans (hb.mono HB.out.size))
  clear hb hbe HC1 e0 e1 e2
  obtain ⟨e0, e1, e2⟩ := HE.out.rules
  cases b with
  | false =>
    go_wp2_with fail
    go_ret
    exact IffPost.no (fun c => by have := HBE.out.2 (HQ.out.1 c).1.2; cases this) HB.out
  | true =>
    have HQ2 : Hid (OK ↔ ∀ i, i < ne → (es i).ok) := Lib.hid ⟨fun c => (HQ.out.1 c).2, fun c => HQ.out.2 ⟨⟨by omega, HBE.out.1 (by trivial)⟩, c⟩⟩
    clear HQ HBE
    go_wp2_with fail
    go_loopw [3] (fun i wr => ∃ k : Nat, k ≤ ne ∧ i = .int .i64 k ∧ Hid (Below w.heap.size w wr) ∧ Hid (Has wr G #[.slice A nc ca, .slice E ne ce] 25) ∧ Hid (∀ i, i < k → (es i).ok)) (fun i _ => ne - (intOf i).toNat)
    case atStart => exact ⟨0, Nat.zero_le _, rfl, HB, HE, Lib.hid fun i hi => by omega⟩
    case round =>
      clear HB HE e0 e1 e2
      obtain ⟨k, hk, rfl, HB, HE, HA⟩ := hrel
      obtain ⟨e0, e1, e2⟩ := HE.out.rules
      by_cases hlt : k < ne
      · obtain ⟨pa, bb, o, hAa, _, hxk, hrg⟩ := HEN.out.later HB.out HB.out.size hlt
        subst hAa
        have HRG := Lib.hid hrg
        have HXK := Lib.hid hxk
        obtain ⟨y, hy⟩ : ∃ y, es k = y := ⟨_, rfl⟩
        have HYY := Lib.hid hy
        rw [hy] at HRG HXK
        obtain ⟨pf, pt, nr, rm, mc, ms⟩ := y
        obtain ⟨Ar, cr, Ac, cc⟩ := pa
        have HXK' : Hid ((nr ≤ big ∧ nr ≤ cr) ∧ Strs wr wr.heap.size Ar nr rm ∧ ClsAt wr wr.heap.size Ac mc ms) := HXK
        have HRG' : Hid (wr.rangeAt bb (o + k * 4) [.int .i64 pf, .int .i64 pt, .slice Ar nr cr, .slice Ac mc cc]) := HRG
        have HC1 : Hid ((#[.int .i64 pf, .int .i64 pt, .slice Ar nr cr, .slice Ac mc cc] : Array Value).toList.all (·.oneCell') = true) := Lib.hid rfl
        have HOK : Hid (((es k).ok ↔ ((0 ≤ pf ∧ pf < pt ∧ pt ≤ 876599) ∧ nr ≤ 40) ∧ (namesP nr rm ∧ distP nr rm) ∧ clsP mc ms)) := Lib.hid (by rw [hy]; exact Iff.rfl)
        have hk0 : (0 : Int) ≤ k := by omega
        have hk1 : (k : Int) < ne := by omega
        have hnr := HXK'.out.1.1
        unfold big at hnr
        clear hxk hrg hy HXK HRG HYY
        obtain ⟨pb, hpb⟩ : ∃ z, perB pf pt = z := ⟨_, rfl⟩
        have C1 : Hid (∀ W, Calls Tryz.prog 45 #[.agg #[.int .i64 pf, .int .i64 pt]] W (BolPost pb W)) := Lib.hid fun W => by rw [← hpb]; exact rperiod_any pf pt W
        have HPB : Hid (pb = true ↔ (0 ≤ pf ∧ pf < pt ∧ pt ≤ 876600)) := Lib.hid (by rw [← hpb]; exact decide_eq_true_iff)
        clear hpb
        go_upto_region 7 with (first
          | (refine wpList_load_mid ?_ 49 (.tmp 25) ?_ bb (o + k * 4) ?_ _ _ HRG'.out Tryz.underlying49 ?_ HNI.out ?_; rfl; rfl; rfl; rfl)
          | (refine wpList_store_has ?_ 49 (.tmp 4) (.tmp 26) ?_ wr.heap.size ?_ #[.int .i64 pf, .int .i64 pt, .slice Ar nr cr, .slice Ac mc cc] ?_ _ _ (Has.new wr _ _) HNI.out rfl HC1.out ?_; rfl; rfl; rfl; rfl; intro w4 hh4 hl4))
        have hb4 : Below wr.heap.size wr w4 := ((Below.refl _ _).alloc (Nat.le_refl _) _).trans (hl4.below (fun k hk => by omega) (by simp))
        have HY := Lib.hid hh4
        have hs := HB.out.size
        have HB4 := Lib.hid hb4
        replace HE := Lib.hid (HE.out.below hb4 e2)
        obtain ⟨H, hH⟩ : ∃ G, wr.heap.size = G := ⟨_, rfl⟩
        rw [hH] at HY HB4 hs e2 HXK' ⊢
        clear hH hb4 hh4 hl4 HRG' HC1 e0 e1
        obtain ⟨y0, y1, y2⟩ := HY.out.rules
        go_wp2_with fail
        refine (C1.out _).mono ?_
        rintro e w5 ⟨rfl, hb⟩
        replace HE := Lib.hid (HE.out.below hb HE.out.lt)
        replace HY := Lib.hid (HY.out.below hb HY.out.lt)
        replace HB4 : Hid (Below H wr w5) := Lib.hid (HB4.out.trans (hb.mono (Nat.le_of_lt y2)))
        clear hb C1 y0 y1
        obtain ⟨y0, y1, y3⟩ := HY.out.rules
        cases pb with
        | false =>
          go_wp2_with fail
          go_ret
          exact IffPost.no (fun c => by have := (HOK.out.1 (HQ2.out.1 c k hlt)).1.1; have := HPB.out.2 (by omega); cases this) (HB.out.trans (HB4.out.mono hs))
        | true =>
          have hp := HPB.out.1 (by trivial)
          have HP := Lib.hid hp
          clear HPB hp
          by_cases h2 : 876599 < pt
          · go_wp2_with fail
            go_ret
            exact IffPost.no (fun c => by have := (HOK.out.1 (HQ2.out.1 c k hlt)).1.1; omega) (HB.out.trans (HB4.out.mono hs))
          have h2' : pt ≤ 876599 := by omega
          by_cases h3 : 40 < nr
          · have h3' : (40 : Int) < nr := by omega
            go_wp2_with fail
            go_ret
            exact IffPost.no (fun c => by have := (HOK.out.1 (HQ2.out.1 c k hlt)).1.2; omega) (HB.out.trans (HB4.out.mono hs))
          have h3' : (nr : Int) ≤ 40 := by omega
          have HO2 : Hid ((es k).ok ↔ (namesP nr rm ∧ distP nr rm) ∧ clsP mc ms) := Lib.hid ⟨fun c => (HOK.out.1 c).2, fun c => HOK.out.2 ⟨⟨⟨HP.out.1, HP.out.2.1, h2'⟩, by omega⟩, c⟩⟩
          clear HOK HP
          have C2 := Lib.hid (rnames_any Ar nr cr rm w5 (by unfold big; omega) ((Cells.below HXK'.out.2.1 HB4.out).mono (Nat.le_of_lt y3)))
          go_wp2_with fail
          refine C2.out.mono ?_
          rintro e w6 ⟨b, rfl, hbe, hb⟩
          have HBE := Lib.hid hbe
          replace HE := Lib.hid (HE.out.below hb HE.out.lt)
          replace HY := Lib.hid (HY.out.below hb HY.out.lt)
          replace HB4 : Hid (Below H wr w6) := Lib.hid (HB4.out.trans (hb.mono (Nat.le_of_lt y3)))
          clear hb hbe C2 y0 y1 y3
          obtain ⟨y0, y1, y3⟩ := HY.out.rules
          cases b with
          | false =>
            go_wp2_with fail
            go_ret
            exact IffPost.no (fun c => by have := HBE.out.2 (HO2.out.1 (HQ2.out.1 c k hlt)).1.1; cases this) (HB.out.trans (HB4.out.mono hs))
          | true =>
            have C3 := Lib.hid (rdistinct_any Ar nr cr rm w6 (by unfold big; omega) ((Cells.below HXK'.out.2.1 HB4.out).mono (Nat.le_of_lt y3)))
            go_wp2_with fail
            refine C3.out.mono ?_
            rintro e w7 ⟨b, rfl, hbf, hb⟩
            have HBF := Lib.hid hbf
            replace HE := Lib.hid (HE.out.below hb HE.out.lt)
            replace HY := Lib.hid (HY.out.below hb HY.out.lt)
            replace HB4 : Hid (Below H wr w7) := Lib.hid (HB4.out.trans (hb.mono (Nat.le_of_lt y3)))
            clear hb hbf C3 y0 y1 y3
            obtain ⟨y0, y1, y3⟩ := HY.out.rules
            cases b with
            | false =>
              go_wp2_with fail
              go_ret
              exact IffPost.no (fun c => by have := HBF.out.2 (HO2.out.1 (HQ2.out.1 c k hlt)).1.2; cases this) (HB.out.trans (HB4.out.mono hs))
            | true =>
              have C4 := Lib.hid (rclauses_any Ac mc cc ms w7 (HXK'.out.2.2.below HB4.out (Nat.le_of_lt y3)))
              go_wp2_with fail
              refine C4.out.mono ?_
              rintro e w8 ⟨b, rfl, hbg, hb⟩
              have HBG := Lib.hid hbg
              replace HE := Lib.hid (HE.out.below hb HE.out.lt)
              replace HB4 : Hid (Below H wr w8) := Lib.hid (HB4.out.trans (hb.mono (Nat.le_of_lt y3)))
              clear hb hbg C4 y0 y1 y3 HY
              replace HB : Hid (Below w.heap.size w w8) := Lib.hid (HB.out.trans (HB4.out.mono hs))
              cases b with
              | false =>
                go_wp2_with fail
                go_ret
                exact IffPost.no (fun c => by have := HBG.out.2 (HO2.out.1 (HQ2.out.1 c k hlt)).2; cases this) HB.out
              | true =>
                have HP : Hid (es k).ok := Lib.hid (HO2.out.2 ⟨⟨HBE.out.1 (by trivial), HBF.out.1 (by trivial)⟩, HBG.out.1 (by trivial)⟩)
                clear HBE HBF HBG HO2 HB4 HXK'
                go_wp2_with fail
                go_roundw
                case rel => exact ⟨k + 1, by omega, by go_num, HB, HE, Lib.hid fun i hi => by
                  by_cases e : i = k
                  · subst e; exact HP.out
                  · exact HA.out i (by omega)⟩
                case measure => simp [intOf]; omega
      · have hkn : k = ne := by omega
        subst hkn
        have hdd : decide ((k : Int) < k) = false := by rw [decide_eq_false_iff_not]; omega
        go_wp2_with fail
        go_ret
        exact IffPost.yes (HQ2.out.2 HA.out) HB.out
end Go.Proofs.YtlbkhhbbkedhkaaGreatDoor
namespace Go.Proofs.YtlbkhhbbkedhkaaGreatDoor
open Go.RowKit
set_option linter.unusedVariables false

theorem below_drew {B : Nat} {a w : World} (h : Below B a w) : Below B a w.drew := ⟨h.os, h.tape, h.output, h.size, h.block⟩
/-- six cells that a pointer leads to -/
def ExPtr (w : World) (v : Value) (cs : Array Value) : Prop := ∃ b o, v = .pointer (some ⟨b, o, none⟩) ∧ w.rangeAt b o cs.toList ∧ cs.size = 6
def exCells (w : World) (v : Value) : Array Value := match v with
  | .pointer (some a) => #[(w.cell? ⟨a.block, a.off, none⟩).getD undef, (w.cell? ⟨a.block, a.off + 1, none⟩).getD undef, (w.cell? ⟨a.block, a.off + 2, none⟩).getD undef, (w.cell? ⟨a.block, a.off + 3, none⟩).getD undef, (w.cell? ⟨a.block, a.off + 4, none⟩).getD undef, (w.cell? ⟨a.block, a.off + 5, none⟩).getD undef]
  | _ => #[]
theorem ExPtr.cells {w : World} {v : Value} {cs : Array Value} (h : ExPtr w v cs) : exCells w v = cs := by
  obtain ⟨b, o, rfl, hr, hs⟩ := h
  have hg : ∀ j (hj : j < 6), (w.cell? ⟨b, o + j, none⟩).getD undef = cs[j] := fun j hj => by
    rw [hr j cs[j] (by simp)]
    rfl
  apply Array.ext
  · rw [hs]; rfl
  · intro i h1 h2
    rw [hs] at h2
    match i, h2 with
    | 0, _ => exact hg 0 (by omega)
    | 1, _ => exact hg 1 (by omega)
    | 2, _ => exact hg 2 (by omega)
    | 3, _ => exact hg 3 (by omega)
    | 4, _ => exact hg 4 (by omega)
    | 5, _ => exact hg 5 (by omega)
    | i + 6, h => omega
theorem exec_load_ex {ev : Operand → Value} {d : Option Tmp} {x : Operand} {ty : TypeId} {pos : String} {af : Array Edge} {g : Option (Nat × Bool)} {w : World} (h : ∃ cs, ExPtr w (ev x) cs) :
    (execOp ev { dst := d, op := .load 43 x, type := ty, pos := pos, after := af, guard := g }).run Tryz.prog w = .ok (.value (.agg (exCells w (ev x)))) w := by
  obtain ⟨cs, hh⟩ := h
  rw [hh.cells]
  obtain ⟨b, o, hv, hb, hc⟩ := hh
  unfold execOp
  simp only [hv, Instr.loadAt, Instr.sureAddr, Sem.run_bind, Sem.run_pure, Result.andThen_ok, run_loadVar_mid w b o 43 cs.toList _ hb Tryz.underlying43 rfl (by rw [Array.length_toList, hc]; exact ex_info), Array.toArray_toList]

set_option maxRecDepth 100000 in
set_option maxHeartbeats 1000000 in
theorem samewords_yes (A A2 : Option Addr) (n c c2 : Nat) (f : Nat → ByteArray) (B B2 : Nat) (w : World) (hn : n ≤ big) (h1 : Strs w B A n f) (h2 : Strs w B2 A2 n f) :
    Calls Tryz.prog 51 #[.slice A n c, .slice A2 n c2] w fun e w' => e = .returned (.bool true) ∧ ∃ m, w' = w.drewN m := by
  have H1 := Lib.hid h1
  have H2 := Lib.hid h2
  unfold big at hn
  clear h1 h2
  go_enter Tryz.func51, Tryz.ntmps51
  go_wp2_with fail
  go_loopw [5] (fun i wr => ∃ k : Nat, k ≤ n ∧ i = .int .i64 k ∧ ∃ m, wr = w.drewN m) (fun i _ => n - (intOf i).toNat)
  case atStart => exact ⟨0, Nat.zero_le _, rfl, 0, rfl⟩
  case round =>
    obtain ⟨k, hk, rfl, m, rfl⟩ := hrel
    by_cases hlt : k < n
    · obtain ⟨b, o, rfl, _, hc⟩ := Strs.get H1.out hlt
      obtain ⟨b', o', rfl, _, hc'⟩ := Strs.get H2.out hlt
      have hc0 := hc k hlt
      have hc1 := hc' k hlt
      obtain ⟨x, hx⟩ : ∃ x, f k = x := ⟨_, rfl⟩
      rw [hx] at hc0 hc1
      have he : (x.toList == x.toList) = true := by simp
      have hk0 : (0 : Int) ≤ k := by omega
      have hk1 : (k : Int) < n := by omega
      clear hx hc hc'
      go_wp2_with fail
      go_quiet (fail)
      go_wp2_with fail
      go_roundw
      case rel => exact ⟨k + 1, by omega, by go_num, _, by first | rfl | exact World.drewN_drewN _ _ _⟩
      case measure => simp [intOf]; omega
    · have hd : decide ((k : Int) < n) = false := by rw [decide_eq_false_iff_not]; omega
      go_wp2_with fail
      go_ret
      exact ⟨rfl, m, rfl⟩
end Go.Proofs.YtlbkhhbbkedhkaaGreatDoor
