/- The deck's small amounts and excess treaties. -/
import Derived.Test.YtlmgfcgakdanaaaDkT
namespace Go.Proofs.Ytlmgfcgakdanaaa
open Go.RowKit
set_option linter.unusedVariables false

set_option maxHeartbeats 1000000 in
theorem small_any (b : Nat) (w : World) (hd : IsDeck w b) : Calls Try.prog 28 #[.pointer (some ⟨b, 0, none⟩)] w (DeckPost b 0 268435455 w) := by
  have HD := Lib.hid hd
  clear hd
  go_enter Try.func28, Try.ntmps28
  go_wp2_with fail
  refine (next_any b 4 w HD.out (by omega) (by omega)).mono ?_
  rintro e w1 ⟨v, rfl, v0, v1, hk1, hd1⟩
  have HK1 := Lib.hid hk1
  have HD1 := Lib.hid hd1
  clear hk1 hd1 HD
  have hv : v = 0 ∨ v = 1 ∨ v = 2 ∨ v = 3 := by omega
  clear v0 v1
  rcases hv with rfl | rfl | rfl | rfl
  all_goals
    go_wp2_with fail
    refine (next_any b _ _ HD1.out (by omega) (by omega)).mono ?_
    rintro e w2 ⟨u, rfl, u0, u1, hk2, hd2⟩
    have HK2 : Hid (Keeps b w w2) := Lib.hid (HK1.out.trans hk2)
    have HD2 := Lib.hid hd2
    clear hk2 hd2 HD1 HK1
    go_wp2_with fail
    go_ret
    exact ⟨_, rfl, by omega, by omega, HK2.out, HD2.out⟩

/-- what Excess returns -/
def DExcessPost (b : Nat) (w : World) (e : Ending) (w' : World) : Prop := ∃ t : Ty, e = .returned (.agg t.cells) ∧ t.xerr = 0 ∧ t.In w' w'.heap.size ∧ t.Over w.heap.size ∧ Keeps b w w' ∧ IsDeck w' b

/-- another retention and limit -/
theorem Ty.xerr_set {t : Ty} {x y : Int} (h : t.xerr = 0) (x0 : 0 ≤ x) (x1 : x ≤ 1073741824) (y0 : 1 ≤ y) (y1 : y ≤ 1073741824) : ({ t with ret := x, lim := y } : Ty).xerr = 0 := by
  obtain ⟨he, hk⟩ := Ty.xfine h
  have hz := firstErr_zero he
  have hf := firstErr_zero (hz t.ferr (by simp))
  have h1 := hf (scan (Ty.fc1 t.kind t.val) 11 0) (by simp)
  have h2 := hf (scan (Ty.fc2 t.kind t.val) 11 0) (by simp)
  have h3 := hf (if 0 < t.nre ∧ t.kind ≠ 4 ∧ t.kind ≠ 5 then 20 else 0) (by simp)
  have h4 := hf (if t.nre = 0 ∧ t.timed = true then 20 else 0) (by simp)
  have hv : ∀ j, j < 11 → Ty.fc1 t.kind ({ t with ret := x, lim := y } : Ty).val j = 0 ∧ Ty.fc2 t.kind ({ t with ret := x, lim := y } : Ty).val j = 0 := fun j hj => by
    have a := scan_zero _ _ _ h1 j (by omega) (by omega)
    have b := scan_zero _ _ _ h2 j (by omega) (by omega)
    have hk' : j = 0 ∨ j = 1 ∨ j = 2 ∨ j = 3 ∨ j = 4 ∨ j = 5 ∨ j = 6 ∨ j = 7 ∨ j = 8 ∨ j = 9 ∨ j = 10 := by omega
    rcases hk' with rfl | rfl | rfl | rfl | rfl | rfl | rfl | rfl | rfl | rfl | rfl
    case inr.inr.inr.inr.inl =>
      unfold Ty.fc1 Ty.fc2
      rcases hk with hk | hk <;> rw [hk] <;> simp [Ty.lo, Ty.hi, Ty.tab, Ty.val] <;> omega
    case inr.inr.inr.inr.inr.inl =>
      unfold Ty.fc1 Ty.fc2
      rcases hk with hk | hk <;> rw [hk] <;> simp [Ty.lo, Ty.hi, Ty.tab, Ty.val] <;> omega
    all_goals exact ⟨a, b⟩
  have hferr : ({ t with ret := x, lim := y } : Ty).ferr = 0 := firstErr_fine fun a ha => by
    simp only [List.mem_cons, List.not_mem_nil, or_false] at ha
    rcases ha with rfl | rfl | rfl | rfl
    · exact scan_fine _ _ _ fun j _ hj => (hv j (by omega)).1
    · exact h3
    · exact h4
    · exact scan_fine _ _ _ fun j _ hj => (hv j (by omega)).2
  have herr : ({ t with ret := x, lim := y } : Ty).err = 0 := firstErr_fine fun a ha => by
    simp only [List.mem_cons, List.not_mem_nil, or_false] at ha
    rcases ha with rfl | rfl | rfl | rfl | rfl | rfl | rfl | rfl | rfl | rfl | rfl | rfl
    · exact hz (if 1 ≤ t.id ∧ t.id ≤ 1048576 then 0 else 1) (by simp)
    · exact hz (if 1 ≤ t.kind ∧ t.kind ≤ 6 then 0 else 11) (by simp)
    · exact hz (if Ty.perP t.pf t.pt = true then 0 else 12) (by simp)
    · exact hz (Ty.asc 0 15 t.npe t.fpe) (by simp)
    · exact hz (Ty.asc 0 15 t.nar t.far) (by simp)
    · exact hferr
    · exact hz (if 8 < t.nre then 4 else 0) (by simp)
    · exact hz (scan (Ty.rc t.fre) t.nre 0) (by simp)
    · exact hz (if 12 < t.nin then 4 else 0) (by simp)
    · exact hz (Ty.asc 1 1048576 t.nin t.fin) (by simp)
    · exact hz (if Ty.hasB t.fin t.nin t.id = true then 10 else 0) (by simp)
    · exact hz (Ty.perr t.npa t.fpa t.gpa) (by simp)
  exact firstErr_fine fun a ha => by
    simp only [List.mem_cons, List.not_mem_nil, or_false] at ha
    rcases ha with rfl | rfl
    · exact herr
    · exact if_pos hk

set_option maxRecDepth 100000 in
set_option maxHeartbeats 4000000 in
theorem dexcess_any (b : Nat) (w : World) (hd : IsDeck w b) : Calls Try.prog 12 #[.pointer (some ⟨b, 0, none⟩)] w (DExcessPost b w) := by
  have HD := Lib.hid hd
  have hb := hd.lt
  have HTI := Lib.hid ty_info
  clear hd
  go_enter Try.func12, Try.ntmps12
  go_upto_region 1 with (fail)
  obtain ⟨w1, hw1⟩ : ∃ w1, w.alloc (.cells #[.int .i64 0, .int .i64 0, .int .i64 0, .int .i64 0, .slice none 0 0, .slice none 0 0, .int .i64 0, .int .i64 0, .int .i64 0, .int .i64 0, .int .i64 0, .int .i64 0, .int .i64 0, .int .i64 0, .int .i64 0, .int .i64 0, .slice none 0 0, .bool false, .int .i64 0, .slice none 0 0, .slice none 0 0] 27) = w1 := ⟨_, rfl⟩
  obtain ⟨G, hG⟩ : ∃ G, w.heap.size = G := ⟨_, rfl⟩
  have HZ : Hid (∃ cs : Array Value, cs.size = 21 ∧ Has w1 G cs 27) := Lib.hid ⟨_, rfl, by rw [← hw1, ← hG]; exact Has.new _ _ _⟩
  have HK : Hid (Keeps b w w1) := Lib.hid (by rw [← hw1]; exact (Keeps.refl _ _).alloc _)
  replace HD : Hid (IsDeck w1 b) := Lib.hid (by rw [← hw1]; exact HD.out.alloc _)
  have HGW := Lib.hid hG
  have hbG : b < G := by omega
  rw [hw1, hG]
  clear hw1 hG
  go_wp2_with fail
  refine (next_any b 9 _ HD.out (by omega) (by omega)).mono ?_
  rintro e w2 ⟨x, rfl, x0, x1, hk2, hd2⟩
  replace HK := Lib.hid (HK.out.trans hk2)
  replace HD := Lib.hid hd2
  replace HZ : Hid (∃ cs : Array Value, cs.size = 21 ∧ Has w2 G cs 27) := Lib.hid (by obtain ⟨cs, h1, h2⟩ := HZ.out; exact ⟨cs, h1, h2.keeps hk2 (by omega)⟩)
  clear hk2 hd2
  go_wp2_with fail
  refine (next_any b 2 _ HD.out (by omega) (by omega)).mono ?_
  rintro e w3 ⟨y, rfl, y0, y1, hk2, hd2⟩
  replace HK := Lib.hid (HK.out.trans hk2)
  replace HD := Lib.hid hd2
  replace HZ : Hid (∃ cs : Array Value, cs.size = 21 ∧ Has w3 G cs 27) := Lib.hid (by obtain ⟨cs, h1, h2⟩ := HZ.out; exact ⟨cs, h1, h2.keeps hk2 (by omega)⟩)
  clear hk2 hd2
  have hz3 : G < w3.heap.size := by obtain ⟨cs, h1, h2⟩ := HZ.out; exact h2.lt
  go_wp2_with fail
  refine (dtreaty_any b _ _ _ HD.out (by omega) (by omega) (by omega) (by omega)).mono ?_
  rintro e w4 ⟨t, rfl, hid, hkd, herr, hin, hov, hk2, hd2⟩
  replace HK := Lib.hid (HK.out.trans hk2)
  replace HD := Lib.hid hd2
  replace HZ : Hid (∃ cs : Array Value, cs.size = 21 ∧ Has w4 G cs 27) := Lib.hid (by obtain ⟨cs, h1, h2⟩ := HZ.out; exact ⟨cs, h1, h2.keeps hk2 (by omega)⟩)
  have HX : Hid (t.xerr = 0) := Lib.hid (firstErr_fine fun a ha => by
    simp only [List.mem_cons, List.not_mem_nil, or_false] at ha
    rcases ha with rfl | rfl
    · exact herr
    · exact if_pos (by omega))
  have HI := Lib.hid hin
  have HO : Hid (t.Over (G + 1)) := Lib.hid (hov.mono (by omega))
  clear hk2 hd2 hid hkd herr hin hov
  go_upto_region 2 with ((refine wpList_store_has ?_ 27 (.tmp 3) (.tmp 11) ?_ w4.heap.size ?_ t.cells ?_ _ _ (Has.new w4 _ _) HTI.out ?_ ?_ ?_; rfl; rfl; rfl; rfl; rfl; rfl; intro w5 hh5 hl5))
  simp only [Act.put]
  have hz4 : G < w4.heap.size := by obtain ⟨cs, h1, h2⟩ := HZ.out; exact h2.lt
  obtain ⟨H, hH⟩ : ∃ H, w4.heap.size = H := ⟨_, rfl⟩
  have HT : Hid (XSt b G H w t w5) := Lib.hid (by
    have hbl : Below w4.heap.size w4 w5 := ((Below.refl _ _).alloc (Nat.le_refl _) _).trans (hl5.below (fun k hk => by omega) (by simp))
    have hks := HK.out.trans (Keeps.of_below hbl b)
    rw [hH] at hbl hh5
    have hi := HI.out
    rw [hH] at hi
    refine ⟨hh5, hi.below hbl, HO.out, ?_, hks, HD.out.below hbl (by omega), hb, by rw [HGW.out]; exact Nat.le_refl _, by omega⟩
    obtain ⟨cs, h1, h2⟩ := HZ.out
    exact ⟨cs, h1, h2.below hbl (by omega)⟩)
  rw [hH] at hz4 ⊢
  clear hH hh5 hl5 HI HK HD HZ HO
  go_wp2_with fail
  refine (next_any b 2 _ HT.out.deck (by omega) (by omega)).mono ?_
  rintro e w6 ⟨v, rfl, v0, v1, hk2, hd2⟩
  replace HT := Lib.hid (HT.out.call hk2 hd2)
  clear hk2 hd2
  by_cases hv : v = 0
  · subst hv
    go_wp2_with fail
    refine (small_any b _ HT.out.deck).mono ?_
    rintro e w7 ⟨p, rfl, p0, p1, hk2, hd2⟩
    replace HT := Lib.hid (HT.out.call hk2 hd2)
    clear hk2 hd2
    go_wp2_with fail
    refine (small_any b _ HT.out.deck).mono ?_
    rintro e w8 ⟨q, rfl, q0, q1, hk2, hd2⟩
    replace HT := Lib.hid (HT.out.call hk2 hd2)
    clear hk2 hd2
    have r10 := HT.out.box.cell 10
    have r11 := HT.out.box.cell 11
    have rf := HT.out.box.free
    have rl := HT.out.box.lt
    simp only [Ty.cells, List.getElem?_toArray, List.getElem?_cons_succ, List.getElem?_cons_zero] at r10 r11
    go_upto_region 4 with (fail)
    clear r10 r11 rf rl
    have HS : Hid (∃ t9 : Ty, XSt b G H w t9 ((w8.setCell ⟨H, 10, none⟩ (.int .i64 p)).setCell ⟨H, 11, none⟩ (.int .i64 (1 + q))) ∧ t9.xerr = 0) := Lib.hid ⟨_, HT.out.set p (1 + q), Ty.xerr_set HX.out p0 (by omega) (by omega) (by omega)⟩
    obtain ⟨WT, hW⟩ : ∃ W, (w8.setCell ⟨H, 10, none⟩ (.int .i64 p)).setCell ⟨H, 11, none⟩ (.int .i64 (1 + q)) = W := ⟨_, rfl⟩
    rw [hW] at HS ⊢
    clear hW HT HX
    obtain ⟨t9, hs1, hs2⟩ := HS.out
    clear HS
    have HT := Lib.hid hs1
    have HX := Lib.hid hs2
    clear hs1 hs2
    obtain ⟨rs, hrs, hres⟩ := HT.out.res
    have HR := Lib.hid hres
    have HRS : Hid (rs.size = 21) := Lib.hid hrs
    clear hrs hres
    go_wp2_with (first
      | (refine wpList_load_has ?_ 27 (.tmp 3) ?_ H ?_ _ _ _ HT.out.box Try.underlying27 ?_ HTI.out ?_; rfl; rfl; rfl; rfl)
      | (refine wpList_store_has ?_ 27 (.tmp 2) (.tmp 22) ?_ G ?_ t9.cells ?_ _ _ HR.out HTI.out ?_ ?_ ?_; rfl; rfl; rfl; rfl; exact HRS.out; rfl; intro w99 hh9 hl9))
    refine bodyPost_ret (results_cell_row rfl _ _ G _ _ _ _ ?_ hh9 Try.underlying27 rfl HTI.out) rfl ?_
    · rfl
    · obtain ⟨e1, e2, e3, e4⟩ := HT.out.done hl9
      exact ⟨_, rfl, HX.out, e1, by rw [HGW.out] at e2 ⊢; exact e2, e3, e4⟩
  · have hv1 : (v == 0) = false := by rw [beq_eq_false_iff_ne]; exact hv
    clear hv
    obtain ⟨rs, hrs, hres⟩ := HT.out.res
    have HR := Lib.hid hres
    have HRS : Hid (rs.size = 21) := Lib.hid hrs
    clear hrs hres
    go_wp2_with (first
      | (refine wpList_load_has ?_ 27 (.tmp 3) ?_ H ?_ _ _ _ HT.out.box Try.underlying27 ?_ HTI.out ?_; rfl; rfl; rfl; rfl)
      | (refine wpList_store_has ?_ 27 (.tmp 2) (.tmp 22) ?_ G ?_ t.cells ?_ _ _ HR.out HTI.out ?_ ?_ ?_; rfl; rfl; rfl; rfl; exact HRS.out; rfl; intro w99 hh9 hl9))
    refine bodyPost_ret (results_cell_row rfl _ _ G _ _ _ _ ?_ hh9 Try.underlying27 rfl HTI.out) rfl ?_
    · rfl
    · obtain ⟨e1, e2, e3, e4⟩ := HT.out.done hl9
      exact ⟨_, rfl, HX.out, e1, by rw [HGW.out] at e2 ⊢; exact e2, e3, e4⟩
end Go.Proofs.Ytlmgfcgakdanaaa
