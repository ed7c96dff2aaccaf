/- The points at which a wording changes: of the reference and of the program. The points at which a wording changes: of the program. -/
import Derived.Test.YtlbkhhbbkedhkaaGreatDoorMa25
import Derived.Deep.RegionLaw
import Derived.StillTailTactics
namespace Go.Proofs.YtlbkhhbbkedhkaaGreatDoor
open Go.RowKit
set_option linter.unusedVariables false

/-- the points of a wording, none if it is not valid -/
noncomputable def ptsOf (x : Wr) : List Int := open Classical in if x.ok then ptsR x.es x.ne else []
theorem ptsOf_yes {x : Wr} (h : x.ok) : ptsOf x = ptsR x.es x.ne := if_pos h
theorem ptsOf_no {x : Wr} (h : ¬ x.ok) : ptsOf x = [] := if_neg h
theorem IntsPost.none {x : Wr} {w w' : World} (h : ¬ x.ok) (hb : Below w.heap.size w w') : IntsPost (ptsOf x) w (.returned (.slice none 0 0)) w' := by
  rw [ptsOf_no h]
  exact ⟨_, 0, rfl, Cells.zero, hb⟩

set_option maxRecDepth 100000 in
set_option maxHeartbeats 4000000 in
theorem rpoints_any (x : Wr) (A E : Option Addr) (ca ce : Nat) (w : World) (h : WrAt w w.heap.size x A E) : Calls Tryz.prog 10 #[.agg #[.slice A x.nc ca, .slice E x.ne ce]] w (IntsPost (ptsOf x) w) := by
  have HW := Lib.hid (rwording_any x A E ca ce)
  have HNO : Hid (∀ w w', ¬ x.ok → Below w.heap.size w w' → IntsPost (ptsOf x) w (.returned (.slice none 0 0)) w') := Lib.hid fun _ _ => IntsPost.none
  have HYES := Lib.hid (ptsOf_yes (x := x))
  obtain ⟨PTS, hPTS⟩ : ∃ z, ptsOf x = z := ⟨_, rfl⟩
  rw [hPTS] at HNO HYES ⊢
  clear hPTS
  have HX := Lib.hid h
  have HOE : Hid (x.ok → x.ne ≤ 12) := Lib.hid fun c => c.1.1
  obtain ⟨nc, cs, ne, es⟩ := x
  have HEN : Hid (EnsAt w w.heap.size E ne es) := Lib.hid h.2
  simp only at HW HX HYES HOE ⊢
  obtain ⟨OK, hOK⟩ : ∃ P, (Wr.mk nc cs ne es).ok = P := ⟨_, rfl⟩
  rw [hOK] at HW HNO HYES HOE
  clear hOK h
  go_enter Tryz.func10, Tryz.ntmps10
  go_upto_region 1 with (fail)
  have HB : Hid (Below w.heap.size w (w.alloc (.cells #[.slice A nc ca, .slice E ne ce] 25))) := Lib.hid ((Below.refl _ _).alloc (Nat.le_refl _) _)
  have HE := Lib.hid (Has.new w #[.slice A nc ca, .slice E ne ce] 25)
  obtain ⟨W, hW⟩ : ∃ W, w.alloc (.cells #[.slice A nc ca, .slice E ne ce] 25) = W := ⟨_, rfl⟩
  rw [hW] at HB HE ⊢
  clear hW
  obtain ⟨G, hG⟩ : ∃ G, w.heap.size = G := ⟨_, rfl⟩
  have HGE := Lib.hid hG
  rw [hG] at HE ⊢
  clear hG
  obtain ⟨e0, e1, e2⟩ := HE.out.rules
  have HC1 := Lib.hid (HW.out W (HX.out.below HB.out HB.out.size))
  go_wp2_with fail
  refine HC1.out.mono ?_
  rintro e w1 ⟨b, rfl, hbe, hb⟩
  have HBE := Lib.hid hbe
  replace HE := Lib.hid (HE.out.below hb HE.out.lt)
  replace HB : Hid (Below w.heap.size w w1) := Lib.hid (HB.out.trans (hb.mono HB.out.size))
  clear hb hbe HC1 e0 e1 e2
  obtain ⟨e0, e1, e2⟩ := HE.out.rules
  cases b with
  | false =>
    go_wp2_with fail
    go_ret
    exact HNO.out _ _ (fun c => by have := HBE.out.2 c; cases this) HB.out
  | true =>
    have hne : ne ≤ 12 := HOE.out (HBE.out.1 (by trivial))
    have HR := HYES.out (HBE.out.1 (by trivial))
    have HRR := Lib.hid HR
    clear HYES HNO HBE HOE HR
    go_upto_region 4 with (fail)
    have HE1 := Lib.hid (HE.out.alloc (.cells #[.int .i64 0] 3))
    have HO1 := (OwnI.one w1 0).slice
    have HB1 : Hid (Below w.heap.size w (w1.alloc (.cells #[.int .i64 0] 3))) := Lib.hid (HB.out.alloc HB.out.size _)
    have HI1 : Hid (Ints (w1.alloc (.cells #[.int .i64 0] 3)) (w1.alloc (.cells #[.int .i64 0] 3)).heap.size (some ⟨w1.heap.size, 0, none⟩) (ptsR es 0)) := Lib.hid (by
      obtain ⟨A, c, he, hi⟩ := HO1
      injection he with he
      subst he
      exact hi)
    obtain ⟨V, hV⟩ : ∃ V, w1.alloc (.cells #[.int .i64 0] 3) = V := ⟨_, rfl⟩
    rw [hV] at HE1 HB1 HI1 ⊢
    clear hV HO1 e0 e1 e2
    obtain ⟨e0, e1, e2⟩ := HE1.out.rules
    go_wp2_with fail
    go_loopw [3, 4] (fun l ix wr => ∃ (k : Nat) (Q : Option Addr) (c n : Nat), k ≤ ne ∧ ix = .int .i64 k ∧ l = .slice Q n c ∧ Hid (n = (ptsR es k).length) ∧ Hid (Ints wr wr.heap.size Q (ptsR es k)) ∧ Hid (Below w.heap.size w wr) ∧ Hid (Has wr G #[.slice A nc ca, .slice E ne ce] 25)) (fun _ ix _ => ne - (intOf ix).toNat)
    case atStart => exact ⟨0, _, 1, 1, Nat.zero_le _, rfl, rfl, Lib.hid rfl, HI1, HB1, HE1⟩
    case round =>
      clear HB1 HE1 HI1 HE HB e0 e1 e2
      obtain ⟨k, Q, c, n, hk, rfl, rfl, HL, HI, HB, HE⟩ := hrel
      obtain ⟨e0, e1, e2⟩ := HE.out.rules
      have hs := HB.out.size
      by_cases hlt : k < ne
      · obtain ⟨pa, bb, o, hAa, hbb, _, hrg⟩ := HEN.out.later HB.out HB.out.size hlt
        subst hAa
        obtain ⟨pf, hpf⟩ : ∃ z, (es k).pf = z := ⟨_, rfl⟩
        obtain ⟨pt, hpt⟩ : ∃ z, (es k).pt = z := ⟨_, rfl⟩
        have hc0 : wr.cell? ⟨bb, o + k * 4, none⟩ = some (.int .i64 pf) := by rw [← hpf]; exact hrg 0 _ rfl
        have hc1 : wr.cell? ⟨bb, o + k * 4 + 1, none⟩ = some (.int .i64 pt) := by rw [← hpt]; exact hrg 1 _ rfl
        have HST : Hid (addL (addL (ptsR es k) pf) pt = ptsR es (k + 1)) := Lib.hid (by rw [ptsR, hpf, hpt])
        have hk0 : (0 : Int) ≤ k := by omega
        have hk1 : (k : Int) < ne := by omega
        have hlen : n ≤ 1 + 2 * k := by rw [HL.out]; exact ptsR_length es k
        have HLE : Hid (n = (ptsR es k).length) := HL
        clear hrg hpf hpt
        go_upto_region 8 with (fail)
        have hb2 : Below wr.heap.size wr (wr.alloc (.cells #[.int .i64 pf, .int .i64 pt] 38)) := (Below.refl _ _).alloc (Nat.le_refl _) _
        have HY := Lib.hid (Has.new wr #[.int .i64 pf, .int .i64 pt] 38)
        replace HE := Lib.hid (HE.out.below hb2 e2)
        replace HB : Hid (Below w.heap.size w (wr.alloc (.cells #[.int .i64 pf, .int .i64 pt] 38))) := Lib.hid (HB.out.trans (hb2.mono hs))
        have HQ : Hid (Ints (wr.alloc (.cells #[.int .i64 pf, .int .i64 pt] 38)) (wr.alloc (.cells #[.int .i64 pf, .int .i64 pt] 38)).heap.size Q (ptsR es k)) := Lib.hid ((Cells.below HI.out hb2).mono hb2.size)
        obtain ⟨W2, hW2⟩ : ∃ V, wr.alloc (.cells #[.int .i64 pf, .int .i64 pt] 38) = V := ⟨_, rfl⟩
        obtain ⟨H, hH⟩ : ∃ V, wr.heap.size = V := ⟨_, rfl⟩
        rw [hW2] at HY HE HB HQ ⊢
        rw [hH] at HY ⊢
        clear hW2 hH hb2 HI e0 e1 e2 hc0 hc1
        obtain ⟨y0, y1, y2⟩ := HY.out.rules
        have HADD : Hid (∀ (A : Option Addr) (c n : Nat) (zs : List Int) (z : Int) (W : World), zs.length = n → n ≤ 1000 → Ints W W.heap.size A zs → Calls Tryz.prog 24 #[.slice A n c, .int .i64 z] W (IntsPost (addL zs z) W)) := Lib.hid fun A c n zs z W e hl hi => by subst e; exact add_any A c zs z W hl hi
        have tok1 : True := trivial
        go_wp2_with fail
        go_region_law (first
          | (go_simp; go_at_call 24; have _t := tok1; refine (HADD.out Q c n (ptsR es k) pf _ ?h1 ?h2 ?h3).mono ?_; (case h1 => exact HLE.out.symm); (case h2 => omega); (case h3 => exact HQ.out); rintro e w3 ⟨A3, c3, rfl, hi3, hb3⟩; have hb4 : Below W2.heap.size W2 w3 := (by first | exact hb3 | exact (below_drewN (Below.refl _ W2) _).trans hb3); replace HY := Lib.hid (HY.out.below hb4 HY.out.lt); replace HE := Lib.hid (HE.out.below hb4 HE.out.lt); replace HB : Hid (Below w.heap.size w w3) := Lib.hid (HB.out.trans (hb4.mono HB.out.size)); have HI3 := Lib.hid hi3; clear tok1 _t hi3 hb3 hb4 y0 y1 y2 HQ; obtain ⟨y0, y1, y2⟩ := HY.out.rules)
          | (go_simp; go_at_call 24; refine (HADD.out A3 c3 (addL (ptsR es k) pf).length (addL (ptsR es k) pf) pt _ ?h1 ?h2 ?h3).mono ?_; (case h1 => rfl); (case h2 => (have := addL_length (ptsR es k) pf; have := HLE.out; omega)); (case h3 => exact HI3.out); rintro e w4 ⟨A4, c4, rfl, hi4, hb5⟩; have hb6 : Below w3.heap.size w3 w4 := (by first | exact hb5 | exact (below_drewN (Below.refl _ w3) _).trans hb5); replace HE := Lib.hid (HE.out.below hb6 HE.out.lt); replace HB : Hid (Below w.heap.size w w4) := Lib.hid (HB.out.trans (hb6.mono HB.out.size)); have HI4 := Lib.hid hi4; clear hi4 hb5 hb6 y0 y1 y2 HY HI3))
        all_goals
          rw [HST.out] at HI4
          obtain ⟨n4, hn4⟩ : ∃ n4, (addL (addL (ptsR es k) pf) pt).length = n4 := ⟨_, rfl⟩
          have HN4 : Hid (n4 = (ptsR es (k + 1)).length) := Lib.hid (by rw [← HST.out]; exact hn4.symm)
          rw [hn4]
          clear hn4
          go_wp2_with fail
          go_roundw
          case rel => exact ⟨k + 1, A4, c4, n4, by omega, by go_num, rfl, HN4, HI4, HB, HE⟩
          case measure => simp [intOf]; omega
      · have hkn : k = ne := by omega
        subst hkn
        have hdd : decide ((k : Int) < k) = false := by rw [decide_eq_false_iff_not]; omega
        go_wp2_with fail
        go_ret
        rw [HRR.out]
        exact ⟨Q, c, by rw [HL.out]; rfl, HI.out, HB.out⟩
end Go.Proofs.YtlbkhhbbkedhkaaGreatDoor
namespace Go.Proofs.YtlbkhhbbkedhkaaGreatDoor
open Go.RowKit Go.Sort
set_option linter.unusedVariables false

theorem OwnI.le {w : World} {base base' : Nat} {v : Value} {zs : List Int} (h : OwnI w base v zs) (hb : base' ≤ base) : OwnI w base' v zs := by
  refine ⟨h.1, ?_⟩
  rcases h.2 with h0 | ⟨g, cap, cur, hv, hg, hh⟩
  · exact .inl h0
  · exact .inr ⟨g, cap, cur, hv, Nat.le_trans hb hg, hh⟩
theorem OwnI.sorted {w : World} {base g cap n : Nat} {zs : List Int} (h : OwnI w base (.slice (some ⟨g, 0, none⟩) n cap) zs) (hn : zs.length = n) (q : Nat) (os : Array Obj) :
    OwnI (grow (putRow (Value.int .i64) (Sort.ahead w q) g 0 (sortI zs).toArray) os) base (.slice (some ⟨g, 0, none⟩) n cap) (sortI zs) := by
  subst hn
  have h1 := Lib.ownsRow_putRow (enc := Value.int .i64) (q := q) (k := zs.length) h (sortI_length zs) (Nat.le_refl _)
  rw [List.take_of_length_le (by rw [sortI_length]; omega)] at h1
  have h2 := Lib.ownsRow_grow h1 0 os
  unfold OwnI
  rw [sortI_length]
  exact h2
theorem OwnI.compacted {w : World} {base g cap n m : Nat} {zs : List Int} (h : OwnI w base (.slice (some ⟨g, 0, none⟩) n cap) zs) (hn : zs.length = n) (hm : (Lib.compact zs).length = m) (q : Nat) :
    OwnI (putRow (Value.int .i64) (Sort.ahead w q) g 0 (Lib.compact zs ++ List.replicate (zs.length - (Lib.compact zs).length) 0).toArray) base (.slice (some ⟨g, 0, none⟩) m cap) (Lib.compact zs) := by
  subst hn
  subst hm
  have hl := Lib.compact_length_le zs
  have h1 := Lib.ownsRow_putRow (enc := Value.int .i64) (q := q) (k := (Lib.compact zs).length) (ys := Lib.compact zs ++ List.replicate (zs.length - (Lib.compact zs).length) 0) h (by simp; omega) hl
  rw [List.take_left' rfl] at h1
  exact h1

set_option maxRecDepth 100000 in
set_option maxHeartbeats 4000000 in
theorem points_any (x : Wr) (A E : Option Addr) (ca ce : Nat) (w : World) (ht : Tab w) (h : WrAt w w.heap.size x A E) : Calls Tryz.prog 8 #[.agg #[.slice A x.nc ca, .slice E x.ne ce]] w (IntsPost (ptsOf x) w) := by
  have HW : Hid (∀ w, Tab w → WrAt w w.heap.size x A E → Calls Tryz.prog 20 #[.agg #[.slice A x.nc ca, .slice E x.ne ce]] w (IffPost x.ok w)) := Lib.hid fun w h1 h2 => wvalid_any x A E ca ce w h1 h2
  have HNO : Hid (∀ w w', ¬ x.ok → Below w.heap.size w w' → IntsPost (ptsOf x) w (.returned (.slice none 0 0)) w') := Lib.hid fun _ _ => IntsPost.none
  have HYES := Lib.hid (ptsOf_yes (x := x))
  obtain ⟨PTS, hPTS⟩ : ∃ z, ptsOf x = z := ⟨_, rfl⟩
  rw [hPTS] at HNO HYES ⊢
  clear hPTS
  have HTB := Lib.hid ht
  have hpos := ht.pos
  have HX := Lib.hid h
  have HOE : Hid (x.ok → x.ne ≤ 12) := Lib.hid fun c => c.1.1
  obtain ⟨nc, cs, ne, es⟩ := x
  have HEN : Hid (EnsAt w w.heap.size E ne es) := Lib.hid h.2
  have HNI := Lib.hid en_info
  simp only at HW HX HYES HOE ⊢
  obtain ⟨OK, hOK⟩ : ∃ P, (Wr.mk nc cs ne es).ok = P := ⟨_, rfl⟩
  rw [hOK] at HW HNO HYES HOE
  obtain ⟨i0, hi0, hz0, hz1, hz2⟩ := info_parts i64_info
  have HI := Lib.hid hi0
  have HZ0 := Lib.hid hz0
  have HZ1 := Lib.hid hz1
  have HZ2 := Lib.hid hz2
  clear hOK h ht hi0 hz0 hz1 hz2
  go_enter Tryz.func8, Tryz.ntmps8
  go_upto_region 1 with (fail)
  have HB : Hid (Below w.heap.size w (w.alloc (.cells #[.slice A nc ca, .slice E ne ce] 25))) := Lib.hid ((Below.refl _ _).alloc (Nat.le_refl _) _)
  have HE := Lib.hid (Has.new w #[.slice A nc ca, .slice E ne ce] 25)
  obtain ⟨W, hW⟩ : ∃ W, w.alloc (.cells #[.slice A nc ca, .slice E ne ce] 25) = W := ⟨_, rfl⟩
  rw [hW] at HB HE ⊢
  clear hW
  obtain ⟨G, hG⟩ : ∃ G, w.heap.size = G := ⟨_, rfl⟩
  have HGE := Lib.hid hG
  rw [hG] at HE ⊢
  clear hG
  obtain ⟨e0, e1, e2⟩ := HE.out.rules
  have HC1 := Lib.hid (HW.out W (HTB.out.below HB.out hpos) (HX.out.below HB.out HB.out.size))
  go_wp2_with fail
  refine HC1.out.mono ?_
  rintro e w1 ⟨b, rfl, hbe, hb⟩
  have HBE := Lib.hid hbe
  replace HE := Lib.hid (HE.out.below hb HE.out.lt)
  replace HB : Hid (Below w.heap.size w w1) := Lib.hid (HB.out.trans (hb.mono HB.out.size))
  clear hb hbe HC1 e0 e1 e2
  obtain ⟨e0, e1, e2⟩ := HE.out.rules
  cases b with
  | false =>
    go_wp2_with fail
    go_ret
    exact HNO.out _ _ (fun c => by have := HBE.out.2 c; cases this) HB.out
  | true =>
    have hne : ne ≤ 12 := HOE.out (HBE.out.1 (by trivial))
    have HR := HYES.out (HBE.out.1 (by trivial))
    have HRR := Lib.hid HR
    clear HYES HNO HBE HOE HR
    go_upto_region 4 with (fail)
    have HE1 := Lib.hid (HE.out.alloc (.cells #[.int .i64 0] 3))
    have HB1 : Hid (Below w.heap.size w (w1.alloc (.cells #[.int .i64 0] 3))) := Lib.hid (HB.out.alloc HB.out.size _)
    have HO1 : Hid (OwnI (w1.alloc (.cells #[.int .i64 0] 3)) w.heap.size (.slice (some ⟨w1.heap.size, 0, none⟩) 1 1) (ptsL es 0)) := Lib.hid (by
      have := OwnI.one w1 0
      exact this.le HB.out.size)
    obtain ⟨V, hV⟩ : ∃ V, w1.alloc (.cells #[.int .i64 0] 3) = V := ⟨_, rfl⟩
    rw [hV] at HE1 HB1 HO1 ⊢
    clear hV e0 e1 e2
    obtain ⟨e0, e1, e2⟩ := HE1.out.rules
    go_wp2_with fail
    go_loopw [3, 13] (fun l ix wr => ∃ (k : Nat) (g c n : Nat), k ≤ ne ∧ ix = .int .i64 k ∧ l = .slice (some ⟨g, 0, none⟩) n c ∧ Hid ((ptsL es k).length = n) ∧ Hid (OwnI wr w.heap.size (.slice (some ⟨g, 0, none⟩) n c) (ptsL es k)) ∧ Hid (Below w.heap.size w wr)) (fun _ ix _ => ne - (intOf ix).toNat)
    case atStart => exact ⟨0, w1.heap.size, 1, 1, Nat.zero_le _, rfl, rfl, Lib.hid rfl, HO1, HB1⟩
    case round =>
      clear HB1 HE1 HO1 HE HB e0 e1 e2
      obtain ⟨k, g, c, n, hk, rfl, rfl, HL, HO, HB⟩ := hrel
      have hs := HB.out.size
      have hn : n ≤ 1 + 2 * k := by rw [← HL.out, ptsL_length es k]; omega
      by_cases hlt : k < ne
      · obtain ⟨pa, bb, o, hAa, hbb, _, hrg⟩ := HEN.out.later HB.out HB.out.size hlt
        subst hAa
        have HRG := Lib.hid hrg
        have HC1 : Hid (((es k).cells pa).toList.all (·.oneCell') = true) := Lib.hid rfl
        have HST : Hid (ptsL es k ++ [(es k).pf, (es k).pt] = ptsL es (k + 1)) := Lib.hid rfl
        obtain ⟨y, hy⟩ : ∃ y, es k = y := ⟨_, rfl⟩
        rw [hy] at HRG HST
        clear hy HC1
        obtain ⟨pf, pt, nr, rm, mc, ms⟩ := y
        obtain ⟨Ar, cr, Ac, cc⟩ := pa
        have HRG' : Hid (wr.rangeAt bb (o + k * 4) [.int .i64 pf, .int .i64 pt, .slice Ar nr cr, .slice Ac mc cc]) := HRG
        have HC1' : Hid ((#[.int .i64 pf, .int .i64 pt, .slice Ar nr cr, .slice Ac mc cc] : Array Value).toList.all (·.oneCell') = true) := Lib.hid rfl
        simp only at HST
        have hk0 : (0 : Int) ≤ k := by omega
        have hk1 : (k : Int) < ne := by omega
        clear hrg HRG
        go_upto_region 7 with (first
          | (refine wpList_load_mid ?_ 49 (.tmp 15) ?_ bb (o + k * 4) ?_ _ _ HRG'.out Tryz.underlying49 ?_ HNI.out ?_; rfl; rfl; rfl; rfl)
          | (refine wpList_store_has ?_ 49 (.tmp 5) (.tmp 16) ?_ wr.heap.size ?_ #[.int .i64 pf, .int .i64 pt, .slice Ar nr cr, .slice Ac mc cc] ?_ _ _ (Has.new wr _ _) HNI.out rfl HC1'.out ?_; rfl; rfl; rfl; rfl; intro w4 hh4 hl4))
        have hb4 : Below wr.heap.size wr w4 := ((Below.refl _ _).alloc (Nat.le_refl _) _).trans (hl4.below (fun k hk => by omega) (by simp))
        have HY := Lib.hid hh4
        replace HO := Lib.hid (HO.out.below hb4)
        replace HB : Hid (Below w.heap.size w w4) := Lib.hid (HB.out.trans (hb4.mono hs))
        have hs4 := HB.out.size
        obtain ⟨H, hH⟩ : ∃ G, wr.heap.size = G := ⟨_, rfl⟩
        rw [hH] at HY ⊢
        clear hH hb4 hh4 hl4 HRG' HC1' hs
        obtain ⟨y0, y1, y2⟩ := HY.out.rules
        obtain ⟨zs, hzs⟩ : ∃ z, ptsL es k = z := ⟨_, rfl⟩
        rw [hzs] at HO HL HST
        have hzn := HL.out
        subst hzn
        clear hzs
        go_wp2_with (at_builtin; refine wpList_append_lies _ rfl _ _ 26 rfl w.heap.size 3 i0 _ 1 8 Tryz.underlying26 HI.out HZ0.out HZ1.out HZ2.out rfl (by omega) _ zs.length (zs.map (Value.int .i64)) rfl (HO.out.alloc _) ⟨w4.heap.size, 0, none⟩ 2 2 [.int .i64 pf, .int .i64 pt] rfl rfl (World.news_of_block (cs := #[.int .i64 pf, .int .i64 pt]) (t := 3) (fr := (0, 0)) (heap_alloc_new w4 _)) (by simp [Value.oneCell']) (by omega) (by unfold maxLen; omega) (by omega) (by simp; omega) (w4.heap.size + 1) (by simp) ?_; intro g cap w5 hown hgrow hat hlt4)
        have HO4 := Lib.hid (OwnI.snoc2 hown)
        have HB4 : Hid (Below w.heap.size w w5) := Lib.hid ((HB.out.alloc hs4 _).grown hgrow (by simp; omega) (fun q hq => (own_lt HO.out hq).2))
        rw [HST.out] at HO4
        have HL4 : Hid ((ptsL es (k + 1)).length = zs.length + 2) := Lib.hid (by rw [← HST.out]; simp)
        clear hown hgrow hat HO HB HY y0 y1 y2
        go_wp2_with fail
        go_roundw
        case rel => exact ⟨k + 1, g, cap, zs.length + 2, by omega, by go_num, rfl, HL4, HO4, HB4⟩
        case measure => simp [intOf]; omega
      · have hkn : k = ne := by omega
        subst hkn
        have hdd : decide ((k : Int) < k) = false := by rw [decide_eq_false_iff_not]; omega
        have HPS := Lib.hid (pts_same es k)
        obtain ⟨zs, hzs⟩ : ∃ z, ptsL es k = z := ⟨_, rfl⟩
        rw [hzs] at HO HL HPS
        clear hzs
        obtain ⟨g', cap', hv', hbg, hgl, hnc, hcm, hzl, hH⟩ := Lib.holds_of_ownsRow HO.out (by simp)
        injection hv' with hv1 hv2 hv3
        injection hv1 with hv1
        injection hv1 with hv1
        subst hv1
        subst hv3
        have HS1 : Hid (Calls Tryz.prog 21 #[.slice (some ⟨g, 0, none⟩) n c] wr fun e w' => e = .returned (.tuple #[]) ∧ ∃ n os, w' = grow (putRow (Value.int .i64) (Sort.ahead wr n) g 0 (sortI zs).toArray) os) := Lib.hid (by
          have := Tryz.slices_Sort_int g 0 c zs wr hH hgl (by omega)
          rw [HL.out] at this
          exact this)
        have HHN := Lib.hid (And.intro hn (And.intro hnc hcm))
        clear hH hv2 hn hzl hnc hcm
        go_wp2_with fail
        refine HS1.out.mono ?_
        rintro e w4 ⟨rfl, q, os, hw4⟩
        have hb4 : Below w.heap.size wr w4 := by
          rw [hw4]
          have h1 := Lib.below_putRow (enc := Value.int .i64) (g := g) (q := q) (d := (sortI zs).toArray) (Below.refl w.heap.size wr) hbg
          exact h1.trans (Lib.below_grow w.heap.size _ (by simpa [putRow, mapBlock, Sort.ahead] using hs) 0 os)
        have HO4 : Hid (OwnI w4 w.heap.size (.slice (some ⟨g, 0, none⟩) n c) (sortI zs)) := Lib.hid (by rw [hw4]; exact HO.out.sorted HL.out q os)
        have HB4 : Hid (Below w.heap.size w w4) := Lib.hid (HB.out.trans hb4)
        have HBG := Lib.hid hbg
        clear hw4 hb4 HO HB HS1 hgl hbg hs
        have HL4 : Hid ((sortI zs).length = n) := Lib.hid (by rw [sortI_length]; exact HL.out)
        obtain ⟨ys, hys⟩ : ∃ z, sortI zs = z := ⟨_, rfl⟩
        rw [hys] at HO4 HL4 HPS
        clear hys
        obtain ⟨m, hm⟩ : ∃ m, (Lib.compact ys).length = m := ⟨_, rfl⟩
        have HM := Lib.hid hm
        have HS2 : Hid (Calls Tryz.prog 22 #[.slice (some ⟨g, 0, none⟩) n c] w4 fun e w' => e = .returned (.slice (some ⟨g, 0, none⟩) m c) ∧ ∃ q, w' = putRow (Value.int .i64) (Sort.ahead w4 q) g 0 (Lib.compact ys ++ List.replicate (ys.length - (Lib.compact ys).length) 0).toArray) := Lib.hid (by
          obtain ⟨g', cap', hv', hbg, hgl, hnc, hcm, hzl, hH⟩ := Lib.holds_of_ownsRow HO4.out (by simp)
          injection hv' with hv1 hv2 hv3
          injection hv1 with hv1
          injection hv1 with hv1
          subst hv1
          subst hv3
          have := Tryz.slices_Compact_int g 0 c ys w4 hH (by have := HL4.out; have := HHN.out; omega) (by have := HL4.out; have := HHN.out; omega)
          rw [HL4.out, hm] at this ⊢
          exact this)
        clear hm
        go_wp2_with fail
        refine HS2.out.mono ?_
        rintro e w5 ⟨rfl, q2, hw5⟩
        have HB5 : Hid (Below w.heap.size w w5) := Lib.hid (by
          rw [hw5]
          exact Lib.below_putRow HB4.out HBG.out)
        have HO5 : Hid (OwnI w5 w.heap.size (.slice (some ⟨g, 0, none⟩) m c) (Lib.compact ys)) := Lib.hid (by rw [hw5]; exact HO4.out.compacted HL4.out HM.out q2)
        clear hw5 HO4 HB4 HS2
        go_wp2_with fail
        go_ret
        rw [HRR.out, ← HPS.out]
        obtain ⟨A', c', he, hi⟩ := HO5.out.slice
        exact ⟨A', c', by rw [← he]; rfl, hi, HB5.out⟩
end Go.Proofs.YtlbkhhbbkedhkaaGreatDoor
