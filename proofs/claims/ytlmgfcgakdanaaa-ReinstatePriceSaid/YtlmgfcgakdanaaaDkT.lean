/- The deck's treaties: Deck.Treaty returns a valid treaty of the kind that was asked for. -/
import Derived.Test.YtlmgfcgakdanaaaDkU
import Derived.Deep.RegionLaw
import Derived.Deep.CutBlock
namespace Go.Proofs.Ytlmgfcgakdanaaa
open Go.RowKit
set_option linter.unusedVariables false

/-- the treaty of the first statement -/
def Ty.first (id kind pf pt : Int) (Ape : Option Addr) (npe cpe : Nat) (fpe : Nat → Int) (Aar : Option Addr) (nar car : Nat) (far : Nat → Int) (prem : Int) (Apa : Option Addr) (npa cpa : Nat) (fpa gpa : Nat → Int) : Ty :=
  { id := id, kind := kind, pf := pf, pt := pt, risk := 0, cess := 0, line := 0, lines := 0, ret := 0, lim := 0, win := 0, ded := 0, agg := 0, prem := prem, timed := false, base := 0,
    Ape := Ape, npe := npe, cpe := cpe, fpe := fpe, Aar := Aar, nar := nar, car := car, far := far, Are := none, nre := 0, cre := 0, fre := fun _ => 0, Ain := none, nin := 0, cin := 0, fin := fun _ => 0, Apa := Apa, npa := npa, cpa := cpa, fpa := fpa, gpa := gpa }

set_option maxRecDepth 100000 in
theorem first_built (id kind pf pt : Int) (Ape : Option Addr) (npe cpe : Nat) (fpe : Nat → Int) (Aar : Option Addr) (nar car : Nat) (far : Nat → Int) (prem : Int) (Apa : Option Addr) (npa cpa : Nat) (fpa gpa : Nat → Int) :
    Try.prog.built 27 [(0, .int .i64 id), (1, .int .i64 kind), (2, .agg #[.int .i64 pf, .int .i64 pt]), (3, .slice Ape npe cpe), (4, .slice Aar nar car), (14, .int .i64 prem), (19, .slice Apa npa cpa)] =
      some (Ty.first id kind pf pt Ape npe cpe fpe Aar nar car far prem Apa npa cpa fpa gpa).cells := by kernel_rfl

/-- what Treaty returns -/
def DTreatyPost (b : Nat) (id kind : Int) (w : World) (e : Ending) (w' : World) : Prop := ∃ t : Ty, e = .returned (.agg t.cells) ∧ t.id = id ∧ t.kind = kind ∧ t.err = 0 ∧ t.In w' w'.heap.size ∧ t.Over w.heap.size ∧ Keeps b w w' ∧ IsDeck w' b

set_option maxRecDepth 100000 in
set_option maxHeartbeats 4000000 in
theorem dtreaty_any (b : Nat) (id kind : Int) (w : World) (hd : IsDeck w b) (i0 : 1 ≤ id) (i1 : id ≤ 1048576) (k0 : 1 ≤ kind) (k1 : kind ≤ 6) :
    Calls Try.prog 14 #[.pointer (some ⟨b, 0, none⟩), .int .i64 id, .int .i64 kind] w (DTreatyPost b id kind w) := by
  have HD := Lib.hid hd
  have hb := hd.lt
  have HTI := Lib.hid ty_info
  clear hd
  go_enter Try.func14, Try.ntmps14
  go_upto_region 1 with (fail)
  obtain ⟨w1, hw1⟩ : ∃ w1, w.alloc (.cells #[.int .i64 0, .int .i64 0, .int .i64 0, .int .i64 0, .slice none 0 0, .slice none 0 0, .int .i64 0, .int .i64 0, .int .i64 0, .int .i64 0, .int .i64 0, .int .i64 0, .int .i64 0, .int .i64 0, .int .i64 0, .int .i64 0, .slice none 0 0, .bool false, .int .i64 0, .slice none 0 0, .slice none 0 0] 27) = w1 := ⟨_, rfl⟩
  obtain ⟨G, hG⟩ : ∃ G, w.heap.size = G := ⟨_, rfl⟩
  have HZ : Hid (∃ cs : Array Value, cs.size = 21 ∧ Has w1 G cs 27) := Lib.hid ⟨_, rfl, by rw [← hw1, ← hG]; exact Has.new _ _ _⟩
  have HK : Hid (Keeps b w w1) := Lib.hid (by rw [← hw1]; exact (Keeps.refl _ _).alloc _)
  replace HD : Hid (IsDeck w1 b) := Lib.hid (by rw [← hw1]; exact HD.out.alloc _)
  have HGW := Lib.hid hG
  have hbG : b < G := by omega
  rw [hw1, hG]
  clear hw1 hG
  go_wp2_with fail
  refine (next_any b 10 _ HD.out (by omega) (by omega)).mono ?_
  rintro e w2 ⟨pf, rfl, pf0, pf1, hk2, hd2⟩
  replace HK := Lib.hid (HK.out.trans hk2)
  replace HD := Lib.hid hd2
  replace HZ : Hid (∃ cs : Array Value, cs.size = 21 ∧ Has w2 G cs 27) := Lib.hid (by obtain ⟨cs, h1, h2⟩ := HZ.out; exact ⟨cs, h1, h2.keeps hk2 (by omega)⟩)
  clear hk2 hd2
  go_wp2_with fail
  refine (next_any b 60 _ HD.out (by omega) (by omega)).mono ?_
  rintro e w3 ⟨pt, rfl, pt0, pt1, hk2, hd2⟩
  replace HK := Lib.hid (HK.out.trans hk2)
  replace HD := Lib.hid hd2
  replace HZ : Hid (∃ cs : Array Value, cs.size = 21 ∧ Has w3 G cs 27) := Lib.hid (by obtain ⟨cs, h1, h2⟩ := HZ.out; exact ⟨cs, h1, h2.keeps hk2 (by omega)⟩)
  clear hk2 hd2
  go_wp2_with fail
  have hz3 : G < w3.heap.size := by obtain ⟨cs, h1, h2⟩ := HZ.out; exact h2.lt
  refine (subset_any b _ HD.out).mono ?_
  rintro e w4 ⟨A1, n1, c1, f1, rfl, hn1, hl1, hA1, he1, hk2, hd2⟩
  replace HK := Lib.hid (HK.out.trans hk2)
  replace HD := Lib.hid hd2
  replace HZ : Hid (∃ cs : Array Value, cs.size = 21 ∧ Has w4 G cs 27) := Lib.hid (by obtain ⟨cs, h1, h2⟩ := HZ.out; exact ⟨cs, h1, h2.keeps hk2 (by omega)⟩)
  have HL1 := Lib.hid hl1
  have HA1 : Hid (∀ ad, A1 = some ad → ad.block ≠ b ∧ G < ad.block) := Lib.hid fun ad h => ⟨(hA1 ad h).1, by have := (hA1 ad h).2; have := hz3; omega⟩
  have HE1 := Lib.hid he1
  clear hl1 hA1 he1
  clear hk2 hd2
  go_wp2_with fail
  have hz4 : G < w4.heap.size := by obtain ⟨cs, h1, h2⟩ := HZ.out; exact h2.lt
  refine (subset_any b _ HD.out).mono ?_
  rintro e w5 ⟨A2, n2, c2, f2, rfl, hn2, hl2, hA2, he2, hk2, hd2⟩
  replace HK := Lib.hid (HK.out.trans hk2)
  replace HD := Lib.hid hd2
  replace HZ : Hid (∃ cs : Array Value, cs.size = 21 ∧ Has w5 G cs 27) := Lib.hid (by obtain ⟨cs, h1, h2⟩ := HZ.out; exact ⟨cs, h1, h2.keeps hk2 (by omega)⟩)
  replace HL1 := Lib.hid (Cells.keeps_ne HL1.out hk2 (fun ad h => (HA1.out ad h).1))
  have HL2 := Lib.hid hl2
  have HA2 : Hid (∀ ad, A2 = some ad → ad.block ≠ b ∧ G < ad.block) := Lib.hid fun ad h => ⟨(hA2 ad h).1, by have := (hA2 ad h).2; have := hz4; omega⟩
  have HE2 := Lib.hid he2
  clear hl2 hA2 he2
  clear hk2 hd2
  go_wp2_with fail
  refine (money_any b _ HD.out).mono ?_
  rintro e w6 ⟨pm, rfl, pm0, pm1, hk2, hd2⟩
  replace HK := Lib.hid (HK.out.trans hk2)
  replace HD := Lib.hid hd2
  replace HZ : Hid (∃ cs : Array Value, cs.size = 21 ∧ Has w6 G cs 27) := Lib.hid (by obtain ⟨cs, h1, h2⟩ := HZ.out; exact ⟨cs, h1, h2.keeps hk2 (by omega)⟩)
  replace HL1 := Lib.hid (Cells.keeps_ne HL1.out hk2 (fun ad h => (HA1.out ad h).1))
  replace HL2 := Lib.hid (Cells.keeps_ne HL2.out hk2 (fun ad h => (HA2.out ad h).1))
  clear hk2 hd2
  go_wp2_with fail
  have hz6 : G < w6.heap.size := by obtain ⟨cs, h1, h2⟩ := HZ.out; exact h2.lt
  refine (dparts_any b _ HD.out).mono ?_
  rintro e w7 ⟨A3, n3, c3, f3, g3, rfl, hn3, hl3, hA3, he3, hk2, hd2⟩
  replace HK := Lib.hid (HK.out.trans hk2)
  replace HD := Lib.hid hd2
  replace HZ : Hid (∃ cs : Array Value, cs.size = 21 ∧ Has w7 G cs 27) := Lib.hid (by obtain ⟨cs, h1, h2⟩ := HZ.out; exact ⟨cs, h1, h2.keeps hk2 (by omega)⟩)
  replace HL1 := Lib.hid (Cells.keeps_ne HL1.out hk2 (fun ad h => (HA1.out ad h).1))
  replace HL2 := Lib.hid (Cells.keeps_ne HL2.out hk2 (fun ad h => (HA2.out ad h).1))
  have HL3 := Lib.hid hl3
  have HA3 : Hid (∀ ad, A3 = some ad → ad.block ≠ b ∧ G < ad.block) := Lib.hid fun ad h => ⟨(hA3 ad h).1, by have := (hA3 ad h).2; have := hz6; omega⟩
  have HE3 := Lib.hid he3
  clear hl3 hA3 he3
  clear hk2 hd2
  have HF : Hid (∃ t0 : Ty, t0.Raw id kind ∧ t0.Ape = A1 ∧ t0.npe = n1 ∧ t0.fpe = f1 ∧ t0.Aar = A2 ∧ t0.nar = n2 ∧ t0.far = f2 ∧ t0.Apa = A3 ∧ t0.npa = n3 ∧ t0.fpa = f3 ∧ t0.gpa = g3 ∧ t0.Are = none ∧ t0.nre = 0 ∧ t0.cre = 0 ∧ t0.Ain = none ∧ t0.nin = 0 ∧
      Try.prog.built 27 [(0, .int .i64 id), (1, .int .i64 kind), (2, .agg #[.int .i64 pf, .int .i64 (60 + pt)]), (3, .slice A1 n1 c1), (4, .slice A2 n2 c2), (14, .int .i64 pm), (19, .slice A3 n3 c3)] = some t0.cells) := Lib.hid ⟨_,
    ⟨rfl, rfl, ⟨i0, i1, k0, k1, ⟨pf0, by show pf < 60 + pt; omega, by show 60 + pt ≤ 876600; omega⟩, HE1.out, HE2.out, by show 0 ≤ 8; omega, (fun i (hi : i < 0) => absurd hi (by omega)), rfl, HE3.out, ⟨pm0, pm1⟩⟩, rfl, rfl, rfl, rfl, rfl, rfl, rfl, rfl, rfl, rfl, rfl, rfl⟩,
    rfl, rfl, rfl, rfl, rfl, rfl, rfl, rfl, rfl, rfl, rfl, rfl, rfl, rfl, rfl, first_built id kind pf (60 + pt) A1 n1 c1 f1 A2 n2 c2 f2 pm A3 n3 c3 f3 g3⟩
  obtain ⟨t, hraw, e1, e2, e3, e4, e5, e6, e7, e8, e9, e10, e11, e12, e13, e14, e15, hbl⟩ := HF.out
  have HBL := Lib.hid hbl
  have HRW := Lib.hid hraw
  have HQ : Hid (Cells.At w7 w7.heap.size b G t.Ape t.npe (fun j => .int .i64 (t.fpe j)) ∧ Cells.At w7 w7.heap.size b G t.Aar t.nar (fun j => .int .i64 (t.far j)) ∧ Cells.At w7 w7.heap.size b G t.Apa (t.npa * 2) (pairAt t.fpa t.gpa) ∧
      (t.Are = none ∧ t.nre = 0 ∧ t.cre = 0) ∧ (t.Ain = none ∧ t.nin = 0) ∧ t.npe ≤ 3 ∧ t.nar ≤ 3 ∧ t.npa ≤ 4) := Lib.hid (by
    rw [e1, e2, e3, e4, e5, e6, e7, e8, e9, e10, e11, e12, e13, e14, e15]
    exact ⟨⟨HL1.out, fun ad h => by have := (HA1.out ad h).2; omega⟩, ⟨HL2.out, fun ad h => by have := (HA2.out ad h).2; omega⟩, ⟨HL3.out, fun ad h => by have := (HA3.out ad h).2; omega⟩, ⟨rfl, rfl, rfl⟩, ⟨rfl, rfl⟩, by omega, by omega, by omega⟩)
  clear hbl hraw HF e1 e2 e3 e4 e5 e6 e7 e8 e9 e10 e11 e12 e13 e14 e15 HL1 HL2 HL3 HA1 HA2 HA3 HE1 HE2 HE3
  go_upto_region 2 with (first
    | (refine wpList_build_is ?_ 27 [(0, .tmp 9), (1, .tmp 10), (2, .tmp 16), (3, .tmp 18), (4, .tmp 20), (14, .tmp 22), (19, .tmp 24)] ?_ [(0, .int .i64 id), (1, .int .i64 kind), (2, .agg #[.int .i64 pf, .int .i64 (60 + pt)]), (3, .slice A1 n1 c1), (4, .slice A2 n2 c2), (14, .int .i64 pm), (19, .slice A3 n3 c3)] ?_ _ HBL.out ?_; rfl; rfl; rfl)
    | (refine wpList_store_has ?_ 27 (.tmp 7) (.tmp 25) ?_ w7.heap.size ?_ t.cells ?_ _ _ (Has.new w7 _ _) HTI.out ?_ ?_ ?_; rfl; rfl; rfl; rfl; rfl; rfl; intro w8 hh8 hl8))
  simp only [Act.put]
  have HT : Hid (DSt b G w7.heap.size w t w8) := Lib.hid (by
    obtain ⟨q1, q2, q3, ⟨q4, q5, q6⟩, ⟨q7, q8⟩, q9, q10, q11⟩ := HQ.out
    have hbl : Below w7.heap.size w7 w8 := ((Below.refl _ _).alloc (Nat.le_refl _) _).trans (hl8.below (fun k hk => by omega) (by simp))
    have hGz := HZ.out
    refine ⟨hh8, ?_, q1.below hbl, q2.below hbl, q3.below hbl, ?_, ⟨q7, q8⟩, q9, q10, q11, by omega, HK.out.trans (Keeps.of_below hbl b), HD.out.below hbl HD.out.lt, hb, by rw [HGW.out]; exact Nat.le_refl _, ?_⟩
    · obtain ⟨cs, h1, h2⟩ := hGz
      exact ⟨cs, h1, h2.below hbl h2.lt⟩
    · rw [q4, q5, q6]
      exact ⟨rfl, .inl ⟨rfl, rfl⟩⟩
    · obtain ⟨cs, h1, h2⟩ := hGz
      exact h2.lt)
  obtain ⟨H, hH⟩ : ∃ H, w7.heap.size = H := ⟨_, rfl⟩
  have HTA := Lib.hid HQ.out.2.2.2.1
  rw [hH] at HT ⊢
  clear hH HQ hh8 hl8 HZ HK HD HBL
  -- KINDS
  have hk : kind = 1 ∨ kind = 2 ∨ kind = 3 ∨ kind = 4 ∨ kind = 5 ∨ kind = 6 := by omega
  clear k0 k1
  rcases hk with rfl | rfl | rfl | rfl | rfl | rfl
  · -- quota share
    go_wp2_with fail
    refine (upto_any b _ _ HT.out.deck (by omega) (by omega)).mono ?_
    rintro e w9 ⟨x, rfl, x0, x1, hk2, hd2⟩
    replace HT := Lib.hid (HT.out.call hk2 hd2)
    clear hk2 hd2
    have r7 := HT.out.box.cell 7
    have rf := HT.out.box.free
    have rl := HT.out.box.lt
    simp only [Ty.cells, List.getElem?_toArray, List.getElem?_cons_succ, List.getElem?_cons_zero] at r7
    go_wp2_with fail
    clear r7 rf rl
    obtain ⟨V1, hW⟩ : ∃ W, w9.setCell ⟨H, 7, none⟩ (.int .i64 (1 + x)) = W := ⟨_, rfl⟩
    replace HT := Lib.hid (HT.out.cess (1 + x))
    rw [hW] at HT ⊢
    clear hW
    go_wp2_with fail
    refine (next_any b _ _ HT.out.deck (by omega) (by omega)).mono ?_
    rintro e w10 ⟨v, rfl, v0, v1, hk2, hd2⟩
    replace HT := Lib.hid (HT.out.call hk2 hd2)
    clear hk2 hd2
    by_cases hv : v = 1
    · subst hv
      go_wp2_with fail
      refine (money_any b _ HT.out.deck).mono ?_
      rintro e w11 ⟨y, rfl, y0, y1, hk2, hd2⟩
      replace HT := Lib.hid (HT.out.call hk2 hd2)
      clear hk2 hd2
      have r11 := HT.out.box.cell 11
      have rf := HT.out.box.free
      have rl := HT.out.box.lt
      simp only [Ty.cells, List.getElem?_toArray, List.getElem?_cons_succ, List.getElem?_cons_zero] at r11
      go_upto_region 12 with (fail)
      clear r11 rf rl
      obtain ⟨WP, hW⟩ : ∃ W, w11.setCell ⟨H, 11, none⟩ (.int .i64 y) = W := ⟨_, rfl⟩
      replace HT := Lib.hid (HT.out.lim y)
      rw [hW] at HT ⊢
      clear hW
      obtain ⟨WT, hW⟩ : ∃ W, WP = W := ⟨_, rfl⟩
      rw [hW] at HT ⊢
      clear hW
      have HS : Hid (∃ t9 : Ty, DSt b G H w t9 WT ∧ Ty.Good id 1 t9) := Lib.hid ⟨_, HT.out, HRW.out.good1 (x := 1 + x) (y := y) (by omega) (by omega) y0 y1⟩
      obtain ⟨t9, hs1, hs2⟩ := HS.out
      clear HT HS
      have HT := Lib.hid hs1
      have HGD := Lib.hid hs2
      clear hs1 hs2
      obtain ⟨rs, hrs, hres⟩ := HT.out.res
      have HR := Lib.hid hres
      have HRS : Hid (rs.size = 21) := Lib.hid hrs
      clear hrs hres
      go_wp2_with (first
        | (refine wpList_load_has ?_ 27 (.tmp 7) ?_ H ?_ _ _ _ HT.out.box Try.underlying27 ?_ HTI.out ?_; rfl; rfl; rfl; rfl)
        | (refine wpList_store_has ?_ 27 (.tmp 6) (.tmp 121) ?_ G ?_ t9.cells ?_ _ _ HR.out HTI.out ?_ ?_ ?_; rfl; rfl; rfl; rfl; exact HRS.out; rfl; intro w99 hh9 hl9))
      refine bodyPost_ret (results_cell_row rfl _ _ G _ _ _ _ ?_ hh9 Try.underlying27 rfl HTI.out) rfl ?_
      · rfl
      · obtain ⟨e1, e2, e3, e4⟩ := HT.out.done hl9
        exact ⟨_, rfl, HGD.out.1, HGD.out.2.1, HGD.out.2.2, e1, e2, e3, e4⟩
    · have hv1 : (v == 1) = false := by rw [beq_eq_false_iff_ne]; exact hv
      clear hv
      go_upto_region 12 with (fail)
      obtain ⟨WP, hW⟩ : ∃ W, w10 = W := ⟨_, rfl⟩
      rw [hW] at HT ⊢
      clear hW
      obtain ⟨WT, hW⟩ : ∃ W, WP = W := ⟨_, rfl⟩
      rw [hW] at HT ⊢
      clear hW
      have HS : Hid (∃ t9 : Ty, DSt b G H w t9 WT ∧ Ty.Good id 1 t9) := Lib.hid ⟨_, HT.out, HRW.out.good1 (x := 1 + x) (y := t.lim) (by omega) (by omega) (by rw [HRW.out.lim]; omega) (by rw [HRW.out.lim]; omega)⟩
      obtain ⟨t9, hs1, hs2⟩ := HS.out
      clear HT HS
      have HT := Lib.hid hs1
      have HGD := Lib.hid hs2
      clear hs1 hs2
      obtain ⟨rs, hrs, hres⟩ := HT.out.res
      have HR := Lib.hid hres
      have HRS : Hid (rs.size = 21) := Lib.hid hrs
      clear hrs hres
      go_wp2_with (first
        | (refine wpList_load_has ?_ 27 (.tmp 7) ?_ H ?_ _ _ _ HT.out.box Try.underlying27 ?_ HTI.out ?_; rfl; rfl; rfl; rfl)
        | (refine wpList_store_has ?_ 27 (.tmp 6) (.tmp 121) ?_ G ?_ t9.cells ?_ _ _ HR.out HTI.out ?_ ?_ ?_; rfl; rfl; rfl; rfl; exact HRS.out; rfl; intro w99 hh9 hl9))
      refine bodyPost_ret (results_cell_row rfl _ _ G _ _ _ _ ?_ hh9 Try.underlying27 rfl HTI.out) rfl ?_
      · rfl
      · obtain ⟨e1, e2, e3, e4⟩ := HT.out.done hl9
        exact ⟨_, rfl, HGD.out.1, HGD.out.2.1, HGD.out.2.2, e1, e2, e3, e4⟩
  · -- surplus
    go_wp2_with fail
    refine (upto_any b _ _ HT.out.deck (by omega) (by omega)).mono ?_
    rintro e w9 ⟨x, rfl, x0, x1, hk2, hd2⟩
    replace HT := Lib.hid (HT.out.call hk2 hd2)
    clear hk2 hd2
    go_wp2_with fail
    refine (range_any b _ _ _ HT.out.deck (by omega) (by omega) (by omega) (by omega)).mono ?_
    rintro e w10 ⟨y, rfl, y0, y1, hk2, hd2⟩
    replace HT := Lib.hid (HT.out.call hk2 hd2)
    clear hk2 hd2
    have r8 := HT.out.box.cell 8
    have r9 := HT.out.box.cell 9
    have rf := HT.out.box.free
    have rl := HT.out.box.lt
    simp only [Ty.cells, List.getElem?_toArray, List.getElem?_cons_succ, List.getElem?_cons_zero] at r8 r9
    go_upto_region 12 with (fail)
    clear r8 r9 rf rl
    obtain ⟨WP, hW⟩ : ∃ W, (w10.setCell ⟨H, 8, none⟩ (.int .i64 (1 + x))).setCell ⟨H, 9, none⟩ (.int .i64 y) = W := ⟨_, rfl⟩
    replace HT := Lib.hid ((HT.out.line (1 + x)).lines y)
    rw [hW] at HT ⊢
    clear hW
    obtain ⟨WT, hW⟩ : ∃ W, WP = W := ⟨_, rfl⟩
    rw [hW] at HT ⊢
    clear hW
    have HS : Hid (∃ t9 : Ty, DSt b G H w t9 WT ∧ Ty.Good id 2 t9) := Lib.hid ⟨_, HT.out, HRW.out.good2 (x := 1 + x) (y := y) (by omega) (by omega) (by omega) (by omega)⟩
    obtain ⟨t9, hs1, hs2⟩ := HS.out
    clear HT HS
    have HT := Lib.hid hs1
    have HGD := Lib.hid hs2
    clear hs1 hs2
    obtain ⟨rs, hrs, hres⟩ := HT.out.res
    have HR := Lib.hid hres
    have HRS : Hid (rs.size = 21) := Lib.hid hrs
    clear hrs hres
    go_wp2_with (first
      | (refine wpList_load_has ?_ 27 (.tmp 7) ?_ H ?_ _ _ _ HT.out.box Try.underlying27 ?_ HTI.out ?_; rfl; rfl; rfl; rfl)
      | (refine wpList_store_has ?_ 27 (.tmp 6) (.tmp 121) ?_ G ?_ t9.cells ?_ _ _ HR.out HTI.out ?_ ?_ ?_; rfl; rfl; rfl; rfl; exact HRS.out; rfl; intro w99 hh9 hl9))
    refine bodyPost_ret (results_cell_row rfl _ _ G _ _ _ _ ?_ hh9 Try.underlying27 rfl HTI.out) rfl ?_
    · rfl
    · obtain ⟨e1, e2, e3, e4⟩ := HT.out.done hl9
      exact ⟨_, rfl, HGD.out.1, HGD.out.2.1, HGD.out.2.2, e1, e2, e3, e4⟩
  · -- facultative
    go_wp2_with fail
    refine (range_any b _ _ _ HT.out.deck (by omega) (by omega) (by omega) (by omega)).mono ?_
    rintro e w9 ⟨x, rfl, x0, x1, hk2, hd2⟩
    replace HT := Lib.hid (HT.out.call hk2 hd2)
    clear hk2 hd2
    go_wp2_with fail
    refine (upto_any b _ _ HT.out.deck (by omega) (by omega)).mono ?_
    rintro e w10 ⟨y, rfl, y0, y1, hk2, hd2⟩
    replace HT := Lib.hid (HT.out.call hk2 hd2)
    clear hk2 hd2
    have r6 := HT.out.box.cell 6
    have r7 := HT.out.box.cell 7
    have rf := HT.out.box.free
    have rl := HT.out.box.lt
    simp only [Ty.cells, List.getElem?_toArray, List.getElem?_cons_succ, List.getElem?_cons_zero] at r6 r7
    go_upto_region 12 with (fail)
    clear r6 r7 rf rl
    obtain ⟨WP, hW⟩ : ∃ W, (w10.setCell ⟨H, 6, none⟩ (.int .i64 x)).setCell ⟨H, 7, none⟩ (.int .i64 (1 + y)) = W := ⟨_, rfl⟩
    replace HT := Lib.hid ((HT.out.risk x).cess (1 + y))
    rw [hW] at HT ⊢
    clear hW
    obtain ⟨WT, hW⟩ : ∃ W, WP = W := ⟨_, rfl⟩
    rw [hW] at HT ⊢
    clear hW
    have HS : Hid (∃ t9 : Ty, DSt b G H w t9 WT ∧ Ty.Good id 3 t9) := Lib.hid ⟨_, HT.out, HRW.out.good3 (x := x) (y := 1 + y) (by omega) (by omega) (by omega) (by omega)⟩
    obtain ⟨t9, hs1, hs2⟩ := HS.out
    clear HT HS
    have HT := Lib.hid hs1
    have HGD := Lib.hid hs2
    clear hs1 hs2
    obtain ⟨rs, hrs, hres⟩ := HT.out.res
    have HR := Lib.hid hres
    have HRS : Hid (rs.size = 21) := Lib.hid hrs
    clear hrs hres
    go_wp2_with (first
      | (refine wpList_load_has ?_ 27 (.tmp 7) ?_ H ?_ _ _ _ HT.out.box Try.underlying27 ?_ HTI.out ?_; rfl; rfl; rfl; rfl)
      | (refine wpList_store_has ?_ 27 (.tmp 6) (.tmp 121) ?_ G ?_ t9.cells ?_ _ _ HR.out HTI.out ?_ ?_ ?_; rfl; rfl; rfl; rfl; exact HRS.out; rfl; intro w99 hh9 hl9))
    refine bodyPost_ret (results_cell_row rfl _ _ G _ _ _ _ ?_ hh9 Try.underlying27 rfl HTI.out) rfl ?_
    · rfl
    · obtain ⟨e1, e2, e3, e4⟩ := HT.out.done hl9
      exact ⟨_, rfl, HGD.out.1, HGD.out.2.1, HGD.out.2.2, e1, e2, e3, e4⟩
  · -- excess of kind 4
    go_wp2_with fail
    refine (upto_any b _ _ HT.out.deck (by omega) (by omega)).mono ?_
    rintro e w9 ⟨x, rfl, x0, x1, hk2, hd2⟩
    replace HT := Lib.hid (HT.out.call hk2 hd2)
    clear hk2 hd2
    go_wp2_with fail
    refine (upto_any b _ _ HT.out.deck (by omega) (by omega)).mono ?_
    rintro e w10 ⟨y, rfl, y0, y1, hk2, hd2⟩
    replace HT := Lib.hid (HT.out.call hk2 hd2)
    clear hk2 hd2
    have r10 := HT.out.box.cell 10
    have r11 := HT.out.box.cell 11
    have rf := HT.out.box.free
    have rl := HT.out.box.lt
    simp only [Ty.cells, List.getElem?_toArray, List.getElem?_cons_succ, List.getElem?_cons_zero] at r10 r11
    go_upto_region 12 with (fail)
    clear r10 r11 rf rl
    obtain ⟨WP, hW⟩ : ∃ W, (w10.setCell ⟨H, 10, none⟩ (.int .i64 x)).setCell ⟨H, 11, none⟩ (.int .i64 (1 + y)) = W := ⟨_, rfl⟩
    replace HT := Lib.hid ((HT.out.ret x).lim (1 + y))
    rw [hW] at HT ⊢
    clear hW
    have HS : Hid (∃ t9 : Ty, DSt b G H w t9 WP ∧ t9.Exc id 4 ∧ t9.nre = 0) := Lib.hid ⟨_, HT.out, HRW.out.exc (x := x) (y := 1 + y) x0 (by omega) (by omega) (by omega), HRW.out.nre0⟩
    obtain ⟨t9, hs1, hs2, hs3⟩ := HS.out
    clear HT HS
    have HT := Lib.hid hs1
    have HE := Lib.hid hs2
    have HN0 := Lib.hid hs3
    clear hs1 hs2 hs3 HTA HRW x0 x1 y0 y1
    go_wp2_with fail
    refine (next_any b _ _ HT.out.deck (by omega) (by omega)).mono ?_
    rintro e w11 ⟨v, rfl, v0, v1, hk2, hd2⟩
    replace HT := Lib.hid (HT.out.call hk2 hd2)
    clear hk2 hd2
    go_upto_if 72 with (fail)
    go_cut [] (fun wx => ∃ tt : Ty, DSt b G H w tt wx ∧ tt.Exc id 4 ∧ tt.nre = 0)
    case first =>
      by_cases hv : v = 1
      · subst hv
        go_wp2_with fail
        refine (money_any b _ HT.out.deck).mono ?_
        rintro e w11m ⟨y, rfl, y0, y1, hk2, hd2⟩
        replace HT := Lib.hid (HT.out.call hk2 hd2)
        clear hk2 hd2
        have r13 := HT.out.box.cell 13
        have rf := HT.out.box.free
        have rl := HT.out.box.lt
        simp only [Ty.cells, List.getElem?_toArray, List.getElem?_cons_succ, List.getElem?_cons_zero] at r13
        go_wp2_with fail
        go_meet
        case rel => exact ⟨_, HT.out.ded y, HE.out.setDed y0 y1, HN0.out⟩
      · have hv1 : (v == 1) = false := by rw [beq_eq_false_iff_ne]; exact hv
        clear hv
        go_wp2_with fail
        go_meet
        case rel => exact ⟨_, HT.out, HE.out, HN0.out⟩
    case' rest =>
      clear HT HE HN0 v0 v1
      obtain ⟨tt, hs1, hs2, hs3⟩ := hcut
      have HT := Lib.hid hs1
      have HE := Lib.hid hs2
      have HN0 := Lib.hid hs3
      clear hs1 hs2 hs3
    go_wp2_with fail
    refine (next_any b _ _ HT.out.deck (by omega) (by omega)).mono ?_
    rintro e w13 ⟨v, rfl, v0, v1, hk2, hd2⟩
    replace HT := Lib.hid (HT.out.call hk2 hd2)
    clear hk2 hd2
    go_upto_if 78 with (fail)
    go_cut [] (fun wx => ∃ tt : Ty, DSt b G H w tt wx ∧ tt.Exc id 4 ∧ tt.nre = 0)
    case first =>
      by_cases hv : v = 1
      · subst hv
        go_wp2_with fail
        refine (money_any b _ HT.out.deck).mono ?_
        rintro e w13m ⟨y, rfl, y0, y1, hk2, hd2⟩
        replace HT := Lib.hid (HT.out.call hk2 hd2)
        clear hk2 hd2
        have r14 := HT.out.box.cell 14
        have rf := HT.out.box.free
        have rl := HT.out.box.lt
        simp only [Ty.cells, List.getElem?_toArray, List.getElem?_cons_succ, List.getElem?_cons_zero] at r14
        go_wp2_with fail
        go_meet
        case rel => exact ⟨_, HT.out.agg y, HE.out.setAgg y0 y1, HN0.out⟩
      · have hv1 : (v == 1) = false := by rw [beq_eq_false_iff_ne]; exact hv
        clear hv
        go_wp2_with fail
        go_meet
        case rel => exact ⟨_, HT.out, HE.out, HN0.out⟩
    case' rest =>
      clear HT HE HN0 v0 v1
      obtain ⟨tt, hs1, hs2, hs3⟩ := hcut
      have HT := Lib.hid hs1
      have HE := Lib.hid hs2
      have HN0 := Lib.hid hs3
      clear hs1 hs2 hs3
    go_wp2_with fail
    refine (next_any b _ _ HT.out.deck (by omega) (by omega)).mono ?_
    rintro e w15 ⟨k, rfl, k0, k1, hk2, hd2⟩
    replace HT := Lib.hid (HT.out.call hk2 hd2)
    clear hk2 hd2
    obtain ⟨k', rfl⟩ : ∃ n : Nat, k = n := ⟨k.toNat, by omega⟩
    go_wp2_with fail
    obtain ⟨i9, hi9, hz9, hz19, hz29⟩ := info_parts i64_info
    have HI := Lib.hid hi9
    have HZ0 := Lib.hid hz9
    have HZ1 := Lib.hid hz19
    have HZ2 := Lib.hid hz29
    clear hi9 hz9 hz19 hz29
    go_loopw [8] (fun kx wr => ∃ (j : Nat) (tt : Ty), kx = .int .i64 j ∧ j + tt.nre ≤ 3 ∧ Hid (DSt b G H w tt wr) ∧ Hid (tt.Exc id 4)) (fun kx _ => (intOf kx).toNat)
    case atStart => exact ⟨k', _, rfl, by rw [HN0.out]; omega, HT, HE⟩
    case round =>
      clear HT HE HN0 k0 k1
      obtain ⟨j, tt, rfl, hj, HT, HE⟩ := hrel
      by_cases hlt : 0 < j
      · have hd1 : decide ((0 : Int) < j) = true := by rw [decide_eq_true_iff]; omega
        obtain ⟨n, hn⟩ : ∃ n, tt.nre = n := ⟨_, rfl⟩
        obtain ⟨A, hA⟩ : ∃ n, tt.Are = n := ⟨_, rfl⟩
        obtain ⟨c, hc⟩ : ∃ n, tt.cre = n := ⟨_, rfl⟩
        have r16 := HT.out.box.cell 16
        simp only [Ty.cells, List.getElem?_toArray, List.getElem?_cons_succ, List.getElem?_cons_zero] at r16
        rw [hn, hA, hc] at r16
        have rf := HT.out.box.free 16
        have rl := HT.out.box.lt
        have HN := Lib.hid hn
        have HA := Lib.hid hA
        have HC := Lib.hid hc
        rw [hn] at hj
        clear hn hA hc
        go_wp2_with fail
        go_region_law (first
          | (refine step_append_lies _ (by rfl) _ _ _ (by rfl) (H + 1) 3 i9 _ 1 8 Try.underlying24 HI.out HZ0.out HZ1.out HZ2.out rfl (by omega) (.slice A n c) n (numsL n tt.fre) (by rfl) (HOW.out.alloc _) ⟨w16.heap.size, 0, none⟩ 1 1 [.int .i64 x] (by rfl) (by rfl) (World.news_of_block (cs := #[.int .i64 x]) (t := 3) (fr := (0, 0)) (heap_alloc_new w16 _)) (by simp [Value.oneCell']) (by omega) (by unfold maxLen; omega) (by omega) (by simp; omega) (w16.heap.size + 1) (by simp) ?_; intro gg cap w4 hown hgrow hat hltg; have hgrow2 := hgrow; rw [← HA.out, ← HN.out, ← HC.out] at hgrow2; have hbx := (HT.out.alloc _).after hgrow2; have HAP := Lib.hid ((HT.out.alloc _).append' (x := x) HN.out (by omega) hown hgrow2); clear r16 rf rl; have r16 := hbx.cell 16; simp only [Ty.cells, List.getElem?_toArray, List.getElem?_cons_succ, List.getElem?_cons_zero] at r16; rw [HN.out, HA.out, HC.out] at r16; have rf := hbx.free 16; have rl := hbx.lt; clear hown hgrow hgrow2 hat hbx)
          | (go_simp; go_at_call 15; refine (upto_any b _ _ HT.out.drew.deck (by omega) (by omega)).mono ?_; rintro e w16 ⟨x, rfl, x0, x1, hk2, hd2⟩; replace HT := Lib.hid (HT.out.drew.call hk2 hd2); clear hk2 hd2 r16 rf rl; have r16 := HT.out.box.cell 16; simp only [Ty.cells, List.getElem?_toArray, List.getElem?_cons_succ, List.getElem?_cons_zero] at r16; rw [HN.out, HA.out, HC.out] at r16; have rf := HT.out.box.free 16; have rl := HT.out.box.lt; have HOW : Hid (w16.ownsRow (H + 1) 3 1 (.slice A n c) n (numsL n tt.fre)) := Lib.hid (by have := HT.out.re; rw [HN.out, HA.out, HC.out] at this; exact this)))
        all_goals
          have HE2 := Lib.hid (HE.out.push (A := some ⟨gg, 0, none⟩) (c := cap) (by rw [HN.out]; omega) x0 x1)
          go_wp2_with fail
          go_roundw
          case rel => exact ⟨j - 1, _, by congr 1; omega, by simp only [HN.out]; omega, HAP, HE2⟩
          case measure => simp [intOf]; omega
      · have hd1 : decide ((0 : Int) < j) = false := by rw [decide_eq_false_iff_not]; omega
        have hd2 : decide (0 < j) = false := by rw [decide_eq_false_iff_not]; omega
        obtain ⟨n, hn⟩ : ∃ n, tt.nre = n := ⟨_, rfl⟩
        have r16 := HT.out.box.cell 16
        have r17 := HT.out.box.cell 17
        simp only [Ty.cells, List.getElem?_toArray, List.getElem?_cons_succ, List.getElem?_cons_zero] at r16 r17
        rw [hn] at r16
        have rf := HT.out.box.free
        have rl := HT.out.box.lt
        have HN := Lib.hid hn
        clear hn hlt
        by_cases hn0 : n = 0
        · have hd3 : decide ((0 : Int) < n) = false := by rw [decide_eq_false_iff_not]; omega
          have hd4 : decide (0 < n) = false := by rw [decide_eq_false_iff_not]; omega
          clear hn0
          go_wp2_with fail
          clear r16 r17 rf rl
          clear hd1 hd2 hd3 hd4
          obtain ⟨WQ, hW⟩ : ∃ W, wr.setCell ⟨H, 17, none⟩ (.bool false) = W := ⟨_, rfl⟩
          replace HT := Lib.hid (HT.out.timed false)
          rw [hW] at HT ⊢
          clear hW
          refine (next_any b _ _ HT.out.deck (by omega) (by omega)).mono ?_
          rintro e w18 ⟨q, rfl, q0, q1, hk2, hd2⟩
          replace HT := Lib.hid (HT.out.call hk2 hd2)
          clear hk2 hd2
          by_cases hq : q = 1
          · subst hq
            go_wp2_with fail
            refine (upto_any b _ _ HT.out.deck (by omega) (by omega)).mono ?_
            rintro e w19 ⟨x, rfl, x0, x1, hk2, hd2⟩
            replace HT := Lib.hid (HT.out.call hk2 hd2)
            clear hk2 hd2
            have r18 := HT.out.box.cell 18
            have rf := HT.out.box.free
            have rl := HT.out.box.lt
            simp only [Ty.cells, List.getElem?_toArray, List.getElem?_cons_succ, List.getElem?_cons_zero] at r18
            go_upto_region 24 with (fail)
            clear r18 rf rl
            obtain ⟨WT, hW⟩ : ∃ W, w19.setCell ⟨H, 18, none⟩ (.int .i64 (1 + x)) = W := ⟨_, rfl⟩
            replace HT := Lib.hid (HT.out.base (1 + x))
            rw [hW] at HT ⊢
            clear hW
            have HS : Hid (∃ t9 : Ty, DSt b G H w t9 WT ∧ Ty.Good id 4 t9) := Lib.hid ⟨_, HT.out, HE.out.good4 (x := 1 + x) (z := false) (fun _ => rfl) (by omega) (by omega)⟩
            obtain ⟨t9, hs1, hs2⟩ := HS.out
            clear HT HS
            have HT := Lib.hid hs1
            have HGD := Lib.hid hs2
            clear hs1 hs2
            obtain ⟨rs, hrs, hres⟩ := HT.out.res
            have HR := Lib.hid hres
            have HRS : Hid (rs.size = 21) := Lib.hid hrs
            clear hrs hres
            go_wp2_with (first
              | (refine wpList_load_has ?_ 27 (.tmp 7) ?_ H ?_ _ _ _ HT.out.box Try.underlying27 ?_ HTI.out ?_; rfl; rfl; rfl; rfl)
              | (refine wpList_store_has ?_ 27 (.tmp 6) (.tmp 121) ?_ G ?_ t9.cells ?_ _ _ HR.out HTI.out ?_ ?_ ?_; rfl; rfl; rfl; rfl; exact HRS.out; rfl; intro w99 hh9 hl9))
            refine bodyPost_ret (results_cell_row rfl _ _ G _ _ _ _ ?_ hh9 Try.underlying27 rfl HTI.out) rfl ?_
            · rfl
            · obtain ⟨e1, e2, e3, e4⟩ := HT.out.done hl9
              exact ⟨_, rfl, HGD.out.1, HGD.out.2.1, HGD.out.2.2, e1, e2, e3, e4⟩
          · have hq1 : (q == 1) = false := by rw [beq_eq_false_iff_ne]; exact hq
            clear hq
            go_upto_region 24 with (fail)
            obtain ⟨WT, hW⟩ : ∃ W, w18 = W := ⟨_, rfl⟩
            rw [hW] at HT ⊢
            clear hW
            have HS : Hid (∃ t9 : Ty, DSt b G H w t9 WT ∧ Ty.Good id 4 t9) := Lib.hid ⟨_, HT.out, HE.out.good4 (x := tt.base) (z := false) (fun _ => rfl) (by rw [HE.out.base]; omega) (by rw [HE.out.base]; omega)⟩
            obtain ⟨t9, hs1, hs2⟩ := HS.out
            clear HT HS
            have HT := Lib.hid hs1
            have HGD := Lib.hid hs2
            clear hs1 hs2
            obtain ⟨rs, hrs, hres⟩ := HT.out.res
            have HR := Lib.hid hres
            have HRS : Hid (rs.size = 21) := Lib.hid hrs
            clear hrs hres
            go_wp2_with (first
              | (refine wpList_load_has ?_ 27 (.tmp 7) ?_ H ?_ _ _ _ HT.out.box Try.underlying27 ?_ HTI.out ?_; rfl; rfl; rfl; rfl)
              | (refine wpList_store_has ?_ 27 (.tmp 6) (.tmp 121) ?_ G ?_ t9.cells ?_ _ _ HR.out HTI.out ?_ ?_ ?_; rfl; rfl; rfl; rfl; exact HRS.out; rfl; intro w99 hh9 hl9))
            refine bodyPost_ret (results_cell_row rfl _ _ G _ _ _ _ ?_ hh9 Try.underlying27 rfl HTI.out) rfl ?_
            · rfl
            · obtain ⟨e1, e2, e3, e4⟩ := HT.out.done hl9
              exact ⟨_, rfl, HGD.out.1, HGD.out.2.1, HGD.out.2.2, e1, e2, e3, e4⟩
        · have hnp : 0 < n := by omega
          have hd3 : decide ((0 : Int) < n) = true := by rw [decide_eq_true_iff]; omega
          have hd4 : decide (0 < n) = true := by rw [decide_eq_true_iff]; omega
          clear hn0
          go_wp2_with fail
          refine (next_any b _ _ HT.out.deck (by omega) (by omega)).mono ?_
          rintro e w17 ⟨v, rfl, v0, v1, hk2, hd2'⟩
          replace HT := Lib.hid (HT.out.call hk2 hd2')
          clear hk2 hd2' r16 r17 rf rl
          have r17 := HT.out.box.cell 17
          simp only [Ty.cells, List.getElem?_toArray, List.getElem?_cons_succ, List.getElem?_cons_zero] at r17
          have rf := HT.out.box.free
          have rl := HT.out.box.lt
          by_cases hv : v = 1
          · subst hv
            go_wp2_with fail
            clear r17 rf rl
            clear hd1 hd2 hd3 hd4
            obtain ⟨WQ, hW⟩ : ∃ W, w17.setCell ⟨H, 17, none⟩ (.bool true) = W := ⟨_, rfl⟩
            replace HT := Lib.hid (HT.out.timed true)
            rw [hW] at HT ⊢
            clear hW
            refine (next_any b _ _ HT.out.deck (by omega) (by omega)).mono ?_
            rintro e w18 ⟨q, rfl, q0, q1, hk2, hd2⟩
            replace HT := Lib.hid (HT.out.call hk2 hd2)
            clear hk2 hd2
            by_cases hq : q = 1
            · subst hq
              go_wp2_with fail
              refine (upto_any b _ _ HT.out.deck (by omega) (by omega)).mono ?_
              rintro e w19 ⟨x, rfl, x0, x1, hk2, hd2⟩
              replace HT := Lib.hid (HT.out.call hk2 hd2)
              clear hk2 hd2
              have r18 := HT.out.box.cell 18
              have rf := HT.out.box.free
              have rl := HT.out.box.lt
              simp only [Ty.cells, List.getElem?_toArray, List.getElem?_cons_succ, List.getElem?_cons_zero] at r18
              go_upto_region 24 with (fail)
              clear r18 rf rl
              obtain ⟨WT, hW⟩ : ∃ W, w19.setCell ⟨H, 18, none⟩ (.int .i64 (1 + x)) = W := ⟨_, rfl⟩
              replace HT := Lib.hid (HT.out.base (1 + x))
              rw [hW] at HT ⊢
              clear hW
              have HS : Hid (∃ t9 : Ty, DSt b G H w t9 WT ∧ Ty.Good id 4 t9) := Lib.hid ⟨_, HT.out, HE.out.good4 (x := 1 + x) (z := true) (fun h => by rw [HN.out] at h; omega) (by omega) (by omega)⟩
              obtain ⟨t9, hs1, hs2⟩ := HS.out
              clear HT HS
              have HT := Lib.hid hs1
              have HGD := Lib.hid hs2
              clear hs1 hs2
              obtain ⟨rs, hrs, hres⟩ := HT.out.res
              have HR := Lib.hid hres
              have HRS : Hid (rs.size = 21) := Lib.hid hrs
              clear hrs hres
              go_wp2_with (first
                | (refine wpList_load_has ?_ 27 (.tmp 7) ?_ H ?_ _ _ _ HT.out.box Try.underlying27 ?_ HTI.out ?_; rfl; rfl; rfl; rfl)
                | (refine wpList_store_has ?_ 27 (.tmp 6) (.tmp 121) ?_ G ?_ t9.cells ?_ _ _ HR.out HTI.out ?_ ?_ ?_; rfl; rfl; rfl; rfl; exact HRS.out; rfl; intro w99 hh9 hl9))
              refine bodyPost_ret (results_cell_row rfl _ _ G _ _ _ _ ?_ hh9 Try.underlying27 rfl HTI.out) rfl ?_
              · rfl
              · obtain ⟨e1, e2, e3, e4⟩ := HT.out.done hl9
                exact ⟨_, rfl, HGD.out.1, HGD.out.2.1, HGD.out.2.2, e1, e2, e3, e4⟩
            · have hq1 : (q == 1) = false := by rw [beq_eq_false_iff_ne]; exact hq
              clear hq
              go_upto_region 24 with (fail)
              obtain ⟨WT, hW⟩ : ∃ W, w18 = W := ⟨_, rfl⟩
              rw [hW] at HT ⊢
              clear hW
              have HS : Hid (∃ t9 : Ty, DSt b G H w t9 WT ∧ Ty.Good id 4 t9) := Lib.hid ⟨_, HT.out, HE.out.good4 (x := tt.base) (z := true) (fun h => by rw [HN.out] at h; omega) (by rw [HE.out.base]; omega) (by rw [HE.out.base]; omega)⟩
              obtain ⟨t9, hs1, hs2⟩ := HS.out
              clear HT HS
              have HT := Lib.hid hs1
              have HGD := Lib.hid hs2
              clear hs1 hs2
              obtain ⟨rs, hrs, hres⟩ := HT.out.res
              have HR := Lib.hid hres
              have HRS : Hid (rs.size = 21) := Lib.hid hrs
              clear hrs hres
              go_wp2_with (first
                | (refine wpList_load_has ?_ 27 (.tmp 7) ?_ H ?_ _ _ _ HT.out.box Try.underlying27 ?_ HTI.out ?_; rfl; rfl; rfl; rfl)
                | (refine wpList_store_has ?_ 27 (.tmp 6) (.tmp 121) ?_ G ?_ t9.cells ?_ _ _ HR.out HTI.out ?_ ?_ ?_; rfl; rfl; rfl; rfl; exact HRS.out; rfl; intro w99 hh9 hl9))
              refine bodyPost_ret (results_cell_row rfl _ _ G _ _ _ _ ?_ hh9 Try.underlying27 rfl HTI.out) rfl ?_
              · rfl
              · obtain ⟨e1, e2, e3, e4⟩ := HT.out.done hl9
                exact ⟨_, rfl, HGD.out.1, HGD.out.2.1, HGD.out.2.2, e1, e2, e3, e4⟩
          · have hv1 : (v == 1) = false := by rw [beq_eq_false_iff_ne]; exact hv
            clear hv
            go_wp2_with fail
            clear r17 rf rl
            clear hd1 hd2 hd3 hd4
            obtain ⟨WQ, hW⟩ : ∃ W, w17.setCell ⟨H, 17, none⟩ (.bool false) = W := ⟨_, rfl⟩
            replace HT := Lib.hid (HT.out.timed false)
            rw [hW] at HT ⊢
            clear hW
            refine (next_any b _ _ HT.out.deck (by omega) (by omega)).mono ?_
            rintro e w18 ⟨q, rfl, q0, q1, hk2, hd2⟩
            replace HT := Lib.hid (HT.out.call hk2 hd2)
            clear hk2 hd2
            by_cases hq : q = 1
            · subst hq
              go_wp2_with fail
              refine (upto_any b _ _ HT.out.deck (by omega) (by omega)).mono ?_
              rintro e w19 ⟨x, rfl, x0, x1, hk2, hd2⟩
              replace HT := Lib.hid (HT.out.call hk2 hd2)
              clear hk2 hd2
              have r18 := HT.out.box.cell 18
              have rf := HT.out.box.free
              have rl := HT.out.box.lt
              simp only [Ty.cells, List.getElem?_toArray, List.getElem?_cons_succ, List.getElem?_cons_zero] at r18
              go_upto_region 24 with (fail)
              clear r18 rf rl
              obtain ⟨WT, hW⟩ : ∃ W, w19.setCell ⟨H, 18, none⟩ (.int .i64 (1 + x)) = W := ⟨_, rfl⟩
              replace HT := Lib.hid (HT.out.base (1 + x))
              rw [hW] at HT ⊢
              clear hW
              have HS : Hid (∃ t9 : Ty, DSt b G H w t9 WT ∧ Ty.Good id 4 t9) := Lib.hid ⟨_, HT.out, HE.out.good4 (x := 1 + x) (z := false) (fun _ => rfl) (by omega) (by omega)⟩
              obtain ⟨t9, hs1, hs2⟩ := HS.out
              clear HT HS
              have HT := Lib.hid hs1
              have HGD := Lib.hid hs2
              clear hs1 hs2
              obtain ⟨rs, hrs, hres⟩ := HT.out.res
              have HR := Lib.hid hres
              have HRS : Hid (rs.size = 21) := Lib.hid hrs
              clear hrs hres
              go_wp2_with (first
                | (refine wpList_load_has ?_ 27 (.tmp 7) ?_ H ?_ _ _ _ HT.out.box Try.underlying27 ?_ HTI.out ?_; rfl; rfl; rfl; rfl)
                | (refine wpList_store_has ?_ 27 (.tmp 6) (.tmp 121) ?_ G ?_ t9.cells ?_ _ _ HR.out HTI.out ?_ ?_ ?_; rfl; rfl; rfl; rfl; exact HRS.out; rfl; intro w99 hh9 hl9))
              refine bodyPost_ret (results_cell_row rfl _ _ G _ _ _ _ ?_ hh9 Try.underlying27 rfl HTI.out) rfl ?_
              · rfl
              · obtain ⟨e1, e2, e3, e4⟩ := HT.out.done hl9
                exact ⟨_, rfl, HGD.out.1, HGD.out.2.1, HGD.out.2.2, e1, e2, e3, e4⟩
            · have hq1 : (q == 1) = false := by rw [beq_eq_false_iff_ne]; exact hq
              clear hq
              go_upto_region 24 with (fail)
              obtain ⟨WT, hW⟩ : ∃ W, w18 = W := ⟨_, rfl⟩
              rw [hW] at HT ⊢
              clear hW
              have HS : Hid (∃ t9 : Ty, DSt b G H w t9 WT ∧ Ty.Good id 4 t9) := Lib.hid ⟨_, HT.out, HE.out.good4 (x := tt.base) (z := false) (fun _ => rfl) (by rw [HE.out.base]; omega) (by rw [HE.out.base]; omega)⟩
              obtain ⟨t9, hs1, hs2⟩ := HS.out
              clear HT HS
              have HT := Lib.hid hs1
              have HGD := Lib.hid hs2
              clear hs1 hs2
              obtain ⟨rs, hrs, hres⟩ := HT.out.res
              have HR := Lib.hid hres
              have HRS : Hid (rs.size = 21) := Lib.hid hrs
              clear hrs hres
              go_wp2_with (first
                | (refine wpList_load_has ?_ 27 (.tmp 7) ?_ H ?_ _ _ _ HT.out.box Try.underlying27 ?_ HTI.out ?_; rfl; rfl; rfl; rfl)
                | (refine wpList_store_has ?_ 27 (.tmp 6) (.tmp 121) ?_ G ?_ t9.cells ?_ _ _ HR.out HTI.out ?_ ?_ ?_; rfl; rfl; rfl; rfl; exact HRS.out; rfl; intro w99 hh9 hl9))
              refine bodyPost_ret (results_cell_row rfl _ _ G _ _ _ _ ?_ hh9 Try.underlying27 rfl HTI.out) rfl ?_
              · rfl
              · obtain ⟨e1, e2, e3, e4⟩ := HT.out.done hl9
                exact ⟨_, rfl, HGD.out.1, HGD.out.2.1, HGD.out.2.2, e1, e2, e3, e4⟩
  · -- excess of kind 5
    go_wp2_with fail
    refine (upto_any b _ _ HT.out.deck (by omega) (by omega)).mono ?_
    rintro e w9 ⟨x, rfl, x0, x1, hk2, hd2⟩
    replace HT := Lib.hid (HT.out.call hk2 hd2)
    clear hk2 hd2
    go_wp2_with fail
    refine (upto_any b _ _ HT.out.deck (by omega) (by omega)).mono ?_
    rintro e w10 ⟨y, rfl, y0, y1, hk2, hd2⟩
    replace HT := Lib.hid (HT.out.call hk2 hd2)
    clear hk2 hd2
    have r10 := HT.out.box.cell 10
    have r11 := HT.out.box.cell 11
    have rf := HT.out.box.free
    have rl := HT.out.box.lt
    simp only [Ty.cells, List.getElem?_toArray, List.getElem?_cons_succ, List.getElem?_cons_zero] at r10 r11
    go_upto_region 12 with (fail)
    clear r10 r11 rf rl
    obtain ⟨WP, hW⟩ : ∃ W, (w10.setCell ⟨H, 10, none⟩ (.int .i64 x)).setCell ⟨H, 11, none⟩ (.int .i64 (1 + y)) = W := ⟨_, rfl⟩
    replace HT := Lib.hid ((HT.out.ret x).lim (1 + y))
    rw [hW] at HT ⊢
    clear hW
    have HS : Hid (∃ t9 : Ty, DSt b G H w t9 WP ∧ t9.Exc id 5 ∧ t9.nre = 0) := Lib.hid ⟨_, HT.out, HRW.out.exc (x := x) (y := 1 + y) x0 (by omega) (by omega) (by omega), HRW.out.nre0⟩
    obtain ⟨t9, hs1, hs2, hs3⟩ := HS.out
    clear HT HS
    have HT := Lib.hid hs1
    have HE := Lib.hid hs2
    have HN0 := Lib.hid hs3
    clear hs1 hs2 hs3 HTA HRW x0 x1 y0 y1
    go_wp2_with fail
    refine (next_any b _ _ HT.out.deck (by omega) (by omega)).mono ?_
    rintro e w11 ⟨v, rfl, v0, v1, hk2, hd2⟩
    replace HT := Lib.hid (HT.out.call hk2 hd2)
    clear hk2 hd2
    go_upto_if 72 with (fail)
    go_cut [] (fun wx => ∃ tt : Ty, DSt b G H w tt wx ∧ tt.Exc id 5 ∧ tt.nre = 0)
    case first =>
      by_cases hv : v = 1
      · subst hv
        go_wp2_with fail
        refine (money_any b _ HT.out.deck).mono ?_
        rintro e w11m ⟨y, rfl, y0, y1, hk2, hd2⟩
        replace HT := Lib.hid (HT.out.call hk2 hd2)
        clear hk2 hd2
        have r13 := HT.out.box.cell 13
        have rf := HT.out.box.free
        have rl := HT.out.box.lt
        simp only [Ty.cells, List.getElem?_toArray, List.getElem?_cons_succ, List.getElem?_cons_zero] at r13
        go_wp2_with fail
        go_meet
        case rel => exact ⟨_, HT.out.ded y, HE.out.setDed y0 y1, HN0.out⟩
      · have hv1 : (v == 1) = false := by rw [beq_eq_false_iff_ne]; exact hv
        clear hv
        go_wp2_with fail
        go_meet
        case rel => exact ⟨_, HT.out, HE.out, HN0.out⟩
    case' rest =>
      clear HT HE HN0 v0 v1
      obtain ⟨tt, hs1, hs2, hs3⟩ := hcut
      have HT := Lib.hid hs1
      have HE := Lib.hid hs2
      have HN0 := Lib.hid hs3
      clear hs1 hs2 hs3
    go_wp2_with fail
    refine (next_any b _ _ HT.out.deck (by omega) (by omega)).mono ?_
    rintro e w13 ⟨v, rfl, v0, v1, hk2, hd2⟩
    replace HT := Lib.hid (HT.out.call hk2 hd2)
    clear hk2 hd2
    go_upto_if 78 with (fail)
    go_cut [] (fun wx => ∃ tt : Ty, DSt b G H w tt wx ∧ tt.Exc id 5 ∧ tt.nre = 0)
    case first =>
      by_cases hv : v = 1
      · subst hv
        go_wp2_with fail
        refine (money_any b _ HT.out.deck).mono ?_
        rintro e w13m ⟨y, rfl, y0, y1, hk2, hd2⟩
        replace HT := Lib.hid (HT.out.call hk2 hd2)
        clear hk2 hd2
        have r14 := HT.out.box.cell 14
        have rf := HT.out.box.free
        have rl := HT.out.box.lt
        simp only [Ty.cells, List.getElem?_toArray, List.getElem?_cons_succ, List.getElem?_cons_zero] at r14
        go_wp2_with fail
        go_meet
        case rel => exact ⟨_, HT.out.agg y, HE.out.setAgg y0 y1, HN0.out⟩
      · have hv1 : (v == 1) = false := by rw [beq_eq_false_iff_ne]; exact hv
        clear hv
        go_wp2_with fail
        go_meet
        case rel => exact ⟨_, HT.out, HE.out, HN0.out⟩
    case' rest =>
      clear HT HE HN0 v0 v1
      obtain ⟨tt, hs1, hs2, hs3⟩ := hcut
      have HT := Lib.hid hs1
      have HE := Lib.hid hs2
      have HN0 := Lib.hid hs3
      clear hs1 hs2 hs3
    go_wp2_with fail
    refine (next_any b _ _ HT.out.deck (by omega) (by omega)).mono ?_
    rintro e w15 ⟨k, rfl, k0, k1, hk2, hd2⟩
    replace HT := Lib.hid (HT.out.call hk2 hd2)
    clear hk2 hd2
    obtain ⟨k', rfl⟩ : ∃ n : Nat, k = n := ⟨k.toNat, by omega⟩
    go_wp2_with fail
    obtain ⟨i9, hi9, hz9, hz19, hz29⟩ := info_parts i64_info
    have HI := Lib.hid hi9
    have HZ0 := Lib.hid hz9
    have HZ1 := Lib.hid hz19
    have HZ2 := Lib.hid hz29
    clear hi9 hz9 hz19 hz29
    go_loopw [8] (fun kx wr => ∃ (j : Nat) (tt : Ty), kx = .int .i64 j ∧ j + tt.nre ≤ 3 ∧ Hid (DSt b G H w tt wr) ∧ Hid (tt.Exc id 5)) (fun kx _ => (intOf kx).toNat)
    case atStart => exact ⟨k', _, rfl, by rw [HN0.out]; omega, HT, HE⟩
    case round =>
      clear HT HE HN0 k0 k1
      obtain ⟨j, tt, rfl, hj, HT, HE⟩ := hrel
      by_cases hlt : 0 < j
      · have hd1 : decide ((0 : Int) < j) = true := by rw [decide_eq_true_iff]; omega
        obtain ⟨n, hn⟩ : ∃ n, tt.nre = n := ⟨_, rfl⟩
        obtain ⟨A, hA⟩ : ∃ n, tt.Are = n := ⟨_, rfl⟩
        obtain ⟨c, hc⟩ : ∃ n, tt.cre = n := ⟨_, rfl⟩
        have r16 := HT.out.box.cell 16
        simp only [Ty.cells, List.getElem?_toArray, List.getElem?_cons_succ, List.getElem?_cons_zero] at r16
        rw [hn, hA, hc] at r16
        have rf := HT.out.box.free 16
        have rl := HT.out.box.lt
        have HN := Lib.hid hn
        have HA := Lib.hid hA
        have HC := Lib.hid hc
        rw [hn] at hj
        clear hn hA hc
        go_wp2_with fail
        go_region_law (first
          | (refine step_append_lies _ (by rfl) _ _ _ (by rfl) (H + 1) 3 i9 _ 1 8 Try.underlying24 HI.out HZ0.out HZ1.out HZ2.out rfl (by omega) (.slice A n c) n (numsL n tt.fre) (by rfl) (HOW.out.alloc _) ⟨w16.heap.size, 0, none⟩ 1 1 [.int .i64 x] (by rfl) (by rfl) (World.news_of_block (cs := #[.int .i64 x]) (t := 3) (fr := (0, 0)) (heap_alloc_new w16 _)) (by simp [Value.oneCell']) (by omega) (by unfold maxLen; omega) (by omega) (by simp; omega) (w16.heap.size + 1) (by simp) ?_; intro gg cap w4 hown hgrow hat hltg; have hgrow2 := hgrow; rw [← HA.out, ← HN.out, ← HC.out] at hgrow2; have hbx := (HT.out.alloc _).after hgrow2; have HAP := Lib.hid ((HT.out.alloc _).append' (x := x) HN.out (by omega) hown hgrow2); clear r16 rf rl; have r16 := hbx.cell 16; simp only [Ty.cells, List.getElem?_toArray, List.getElem?_cons_succ, List.getElem?_cons_zero] at r16; rw [HN.out, HA.out, HC.out] at r16; have rf := hbx.free 16; have rl := hbx.lt; clear hown hgrow hgrow2 hat hbx)
          | (go_simp; go_at_call 15; refine (upto_any b _ _ HT.out.drew.deck (by omega) (by omega)).mono ?_; rintro e w16 ⟨x, rfl, x0, x1, hk2, hd2⟩; replace HT := Lib.hid (HT.out.drew.call hk2 hd2); clear hk2 hd2 r16 rf rl; have r16 := HT.out.box.cell 16; simp only [Ty.cells, List.getElem?_toArray, List.getElem?_cons_succ, List.getElem?_cons_zero] at r16; rw [HN.out, HA.out, HC.out] at r16; have rf := HT.out.box.free 16; have rl := HT.out.box.lt; have HOW : Hid (w16.ownsRow (H + 1) 3 1 (.slice A n c) n (numsL n tt.fre)) := Lib.hid (by have := HT.out.re; rw [HN.out, HA.out, HC.out] at this; exact this)))
        all_goals
          have HE2 := Lib.hid (HE.out.push (A := some ⟨gg, 0, none⟩) (c := cap) (by rw [HN.out]; omega) x0 x1)
          go_wp2_with fail
          go_roundw
          case rel => exact ⟨j - 1, _, by congr 1; omega, by simp only [HN.out]; omega, HAP, HE2⟩
          case measure => simp [intOf]; omega
      · have hd1 : decide ((0 : Int) < j) = false := by rw [decide_eq_false_iff_not]; omega
        have hd2 : decide (0 < j) = false := by rw [decide_eq_false_iff_not]; omega
        obtain ⟨n, hn⟩ : ∃ n, tt.nre = n := ⟨_, rfl⟩
        have r16 := HT.out.box.cell 16
        have r17 := HT.out.box.cell 17
        simp only [Ty.cells, List.getElem?_toArray, List.getElem?_cons_succ, List.getElem?_cons_zero] at r16 r17
        rw [hn] at r16
        have rf := HT.out.box.free
        have rl := HT.out.box.lt
        have HN := Lib.hid hn
        clear hn hlt
        by_cases hn0 : n = 0
        · have hd3 : decide ((0 : Int) < n) = false := by rw [decide_eq_false_iff_not]; omega
          have hd4 : decide (0 < n) = false := by rw [decide_eq_false_iff_not]; omega
          clear hn0
          go_wp2_with fail
          clear r16 r17 rf rl
          clear hd1 hd2 hd3 hd4
          obtain ⟨WQ, hW⟩ : ∃ W, wr.setCell ⟨H, 17, none⟩ (.bool false) = W := ⟨_, rfl⟩
          replace HT := Lib.hid (HT.out.timed false)
          rw [hW] at HT ⊢
          clear hW
          refine (range_any b _ _ _ HT.out.deck (by omega) (by omega) (by omega) (by omega)).mono ?_
          rintro e w18 ⟨q, rfl, q0, q1, hk2, hd2⟩
          replace HT := Lib.hid (HT.out.call hk2 hd2)
          clear hk2 hd2
          have r12 := HT.out.box.cell 12
          have rf := HT.out.box.free
          have rl := HT.out.box.lt
          simp only [Ty.cells, List.getElem?_toArray, List.getElem?_cons_succ, List.getElem?_cons_zero] at r12
          go_upto_region 26 with (fail)
          clear r12 rf rl
          obtain ⟨WT, hW⟩ : ∃ W, w18.setCell ⟨H, 12, none⟩ (.int .i64 q) = W := ⟨_, rfl⟩
          replace HT := Lib.hid (HT.out.win q)
          rw [hW] at HT ⊢
          clear hW
          have HS : Hid (∃ t9 : Ty, DSt b G H w t9 WT ∧ Ty.Good id 5 t9) := Lib.hid ⟨_, HT.out, HE.out.good5 (x := q) (z := false) (fun _ => rfl) (by omega) (by omega)⟩
          obtain ⟨t9, hs1, hs2⟩ := HS.out
          clear HT HS
          have HT := Lib.hid hs1
          have HGD := Lib.hid hs2
          clear hs1 hs2
          obtain ⟨rs, hrs, hres⟩ := HT.out.res
          have HR := Lib.hid hres
          have HRS : Hid (rs.size = 21) := Lib.hid hrs
          clear hrs hres
          go_wp2_with (first
            | (refine wpList_load_has ?_ 27 (.tmp 7) ?_ H ?_ _ _ _ HT.out.box Try.underlying27 ?_ HTI.out ?_; rfl; rfl; rfl; rfl)
            | (refine wpList_store_has ?_ 27 (.tmp 6) (.tmp 121) ?_ G ?_ t9.cells ?_ _ _ HR.out HTI.out ?_ ?_ ?_; rfl; rfl; rfl; rfl; exact HRS.out; rfl; intro w99 hh9 hl9))
          refine bodyPost_ret (results_cell_row rfl _ _ G _ _ _ _ ?_ hh9 Try.underlying27 rfl HTI.out) rfl ?_
          · rfl
          · obtain ⟨e1, e2, e3, e4⟩ := HT.out.done hl9
            exact ⟨_, rfl, HGD.out.1, HGD.out.2.1, HGD.out.2.2, e1, e2, e3, e4⟩
        · have hnp : 0 < n := by omega
          have hd3 : decide ((0 : Int) < n) = true := by rw [decide_eq_true_iff]; omega
          have hd4 : decide (0 < n) = true := by rw [decide_eq_true_iff]; omega
          clear hn0
          go_wp2_with fail
          refine (next_any b _ _ HT.out.deck (by omega) (by omega)).mono ?_
          rintro e w17 ⟨v, rfl, v0, v1, hk2, hd2'⟩
          replace HT := Lib.hid (HT.out.call hk2 hd2')
          clear hk2 hd2' r16 r17 rf rl
          have r17 := HT.out.box.cell 17
          simp only [Ty.cells, List.getElem?_toArray, List.getElem?_cons_succ, List.getElem?_cons_zero] at r17
          have rf := HT.out.box.free
          have rl := HT.out.box.lt
          by_cases hv : v = 1
          · subst hv
            go_wp2_with fail
            clear r17 rf rl
            clear hd1 hd2 hd3 hd4
            obtain ⟨WQ, hW⟩ : ∃ W, w17.setCell ⟨H, 17, none⟩ (.bool true) = W := ⟨_, rfl⟩
            replace HT := Lib.hid (HT.out.timed true)
            rw [hW] at HT ⊢
            clear hW
            refine (range_any b _ _ _ HT.out.deck (by omega) (by omega) (by omega) (by omega)).mono ?_
            rintro e w18 ⟨q, rfl, q0, q1, hk2, hd2⟩
            replace HT := Lib.hid (HT.out.call hk2 hd2)
            clear hk2 hd2
            have r12 := HT.out.box.cell 12
            have rf := HT.out.box.free
            have rl := HT.out.box.lt
            simp only [Ty.cells, List.getElem?_toArray, List.getElem?_cons_succ, List.getElem?_cons_zero] at r12
            go_upto_region 26 with (fail)
            clear r12 rf rl
            obtain ⟨WT, hW⟩ : ∃ W, w18.setCell ⟨H, 12, none⟩ (.int .i64 q) = W := ⟨_, rfl⟩
            replace HT := Lib.hid (HT.out.win q)
            rw [hW] at HT ⊢
            clear hW
            have HS : Hid (∃ t9 : Ty, DSt b G H w t9 WT ∧ Ty.Good id 5 t9) := Lib.hid ⟨_, HT.out, HE.out.good5 (x := q) (z := true) (fun h => by rw [HN.out] at h; omega) (by omega) (by omega)⟩
            obtain ⟨t9, hs1, hs2⟩ := HS.out
            clear HT HS
            have HT := Lib.hid hs1
            have HGD := Lib.hid hs2
            clear hs1 hs2
            obtain ⟨rs, hrs, hres⟩ := HT.out.res
            have HR := Lib.hid hres
            have HRS : Hid (rs.size = 21) := Lib.hid hrs
            clear hrs hres
            go_wp2_with (first
              | (refine wpList_load_has ?_ 27 (.tmp 7) ?_ H ?_ _ _ _ HT.out.box Try.underlying27 ?_ HTI.out ?_; rfl; rfl; rfl; rfl)
              | (refine wpList_store_has ?_ 27 (.tmp 6) (.tmp 121) ?_ G ?_ t9.cells ?_ _ _ HR.out HTI.out ?_ ?_ ?_; rfl; rfl; rfl; rfl; exact HRS.out; rfl; intro w99 hh9 hl9))
            refine bodyPost_ret (results_cell_row rfl _ _ G _ _ _ _ ?_ hh9 Try.underlying27 rfl HTI.out) rfl ?_
            · rfl
            · obtain ⟨e1, e2, e3, e4⟩ := HT.out.done hl9
              exact ⟨_, rfl, HGD.out.1, HGD.out.2.1, HGD.out.2.2, e1, e2, e3, e4⟩
          · have hv1 : (v == 1) = false := by rw [beq_eq_false_iff_ne]; exact hv
            clear hv
            go_wp2_with fail
            clear r17 rf rl
            clear hd1 hd2 hd3 hd4
            obtain ⟨WQ, hW⟩ : ∃ W, w17.setCell ⟨H, 17, none⟩ (.bool false) = W := ⟨_, rfl⟩
            replace HT := Lib.hid (HT.out.timed false)
            rw [hW] at HT ⊢
            clear hW
            refine (range_any b _ _ _ HT.out.deck (by omega) (by omega) (by omega) (by omega)).mono ?_
            rintro e w18 ⟨q, rfl, q0, q1, hk2, hd2⟩
            replace HT := Lib.hid (HT.out.call hk2 hd2)
            clear hk2 hd2
            have r12 := HT.out.box.cell 12
            have rf := HT.out.box.free
            have rl := HT.out.box.lt
            simp only [Ty.cells, List.getElem?_toArray, List.getElem?_cons_succ, List.getElem?_cons_zero] at r12
            go_upto_region 26 with (fail)
            clear r12 rf rl
            obtain ⟨WT, hW⟩ : ∃ W, w18.setCell ⟨H, 12, none⟩ (.int .i64 q) = W := ⟨_, rfl⟩
            replace HT := Lib.hid (HT.out.win q)
            rw [hW] at HT ⊢
            clear hW
            have HS : Hid (∃ t9 : Ty, DSt b G H w t9 WT ∧ Ty.Good id 5 t9) := Lib.hid ⟨_, HT.out, HE.out.good5 (x := q) (z := false) (fun _ => rfl) (by omega) (by omega)⟩
            obtain ⟨t9, hs1, hs2⟩ := HS.out
            clear HT HS
            have HT := Lib.hid hs1
            have HGD := Lib.hid hs2
            clear hs1 hs2
            obtain ⟨rs, hrs, hres⟩ := HT.out.res
            have HR := Lib.hid hres
            have HRS : Hid (rs.size = 21) := Lib.hid hrs
            clear hrs hres
            go_wp2_with (first
              | (refine wpList_load_has ?_ 27 (.tmp 7) ?_ H ?_ _ _ _ HT.out.box Try.underlying27 ?_ HTI.out ?_; rfl; rfl; rfl; rfl)
              | (refine wpList_store_has ?_ 27 (.tmp 6) (.tmp 121) ?_ G ?_ t9.cells ?_ _ _ HR.out HTI.out ?_ ?_ ?_; rfl; rfl; rfl; rfl; exact HRS.out; rfl; intro w99 hh9 hl9))
            refine bodyPost_ret (results_cell_row rfl _ _ G _ _ _ _ ?_ hh9 Try.underlying27 rfl HTI.out) rfl ?_
            · rfl
            · obtain ⟨e1, e2, e3, e4⟩ := HT.out.done hl9
              exact ⟨_, rfl, HGD.out.1, HGD.out.2.1, HGD.out.2.2, e1, e2, e3, e4⟩
  · -- stop loss
    go_wp2_with fail
    refine (upto_any b _ _ HT.out.deck (by omega) (by omega)).mono ?_
    rintro e w9 ⟨x, rfl, x0, x1, hk2, hd2⟩
    replace HT := Lib.hid (HT.out.call hk2 hd2)
    clear hk2 hd2
    go_wp2_with fail
    refine (upto_any b _ _ HT.out.deck (by omega) (by omega)).mono ?_
    rintro e w10 ⟨y, rfl, y0, y1, hk2, hd2⟩
    replace HT := Lib.hid (HT.out.call hk2 hd2)
    clear hk2 hd2
    have r10 := HT.out.box.cell 10
    have r11 := HT.out.box.cell 11
    have rf := HT.out.box.free
    have rl := HT.out.box.lt
    simp only [Ty.cells, List.getElem?_toArray, List.getElem?_cons_succ, List.getElem?_cons_zero] at r10 r11
    go_upto_region 12 with (fail)
    clear r10 r11 rf rl
    obtain ⟨WP, hW⟩ : ∃ W, (w10.setCell ⟨H, 10, none⟩ (.int .i64 x)).setCell ⟨H, 11, none⟩ (.int .i64 (1 + y)) = W := ⟨_, rfl⟩
    replace HT := Lib.hid ((HT.out.ret x).lim (1 + y))
    rw [hW] at HT ⊢
    clear hW
    obtain ⟨WT, hW⟩ : ∃ W, WP = W := ⟨_, rfl⟩
    rw [hW] at HT ⊢
    clear hW
    have HS : Hid (∃ t9 : Ty, DSt b G H w t9 WT ∧ Ty.Good id 6 t9) := Lib.hid ⟨_, HT.out, HRW.out.good6 (x := x) (y := 1 + y) x0 (by omega) (by omega) (by omega)⟩
    obtain ⟨t9, hs1, hs2⟩ := HS.out
    clear HT HS
    have HT := Lib.hid hs1
    have HGD := Lib.hid hs2
    clear hs1 hs2
    obtain ⟨rs, hrs, hres⟩ := HT.out.res
    have HR := Lib.hid hres
    have HRS : Hid (rs.size = 21) := Lib.hid hrs
    clear hrs hres
    go_wp2_with (first
      | (refine wpList_load_has ?_ 27 (.tmp 7) ?_ H ?_ _ _ _ HT.out.box Try.underlying27 ?_ HTI.out ?_; rfl; rfl; rfl; rfl)
      | (refine wpList_store_has ?_ 27 (.tmp 6) (.tmp 121) ?_ G ?_ t9.cells ?_ _ _ HR.out HTI.out ?_ ?_ ?_; rfl; rfl; rfl; rfl; exact HRS.out; rfl; intro w99 hh9 hl9))
    refine bodyPost_ret (results_cell_row rfl _ _ G _ _ _ _ ?_ hh9 Try.underlying27 rfl HTI.out) rfl ?_
    · rfl
    · obtain ⟨e1, e2, e3, e4⟩ := HT.out.done hl9
      exact ⟨_, rfl, HGD.out.1, HGD.out.2.1, HGD.out.2.2, e1, e2, e3, e4⟩
end Go.Proofs.Ytlmgfcgakdanaaa
