/- Deck.Clause. Reference 9: definition; reference 5: Index. -/
import Derived.Test.YtlbkhhbbkedhkaaGreatDoorMa20
import Derived.Test.YtlbkhhbbkedhkaaGreatDoorMa14
namespace Go.Proofs.YtlbkhhbbkedhkaaGreatDoor
open Go.RowKit
set_option linter.unusedVariables false

/-- what Deck.Clause returns: a valid clause of the kind and the name, in fresh blocks -/
def MadeC (kd : Nat) (nm : ByteArray) (b : Nat) (w : World) (r : Ending) (w' : World) : Prop := ∃ (x : Cl) (a : WA), r = .returned (.agg (x.cells a)) ∧ ClIn (fun i => w.heap.size ≤ i ∧ i < w'.heap.size) w' x a ∧ (x.kind = kd ∧ x.name = nm ∧ x.ok) ∧ Keeps b w w' ∧ IsDeck w' b
theorem mostZ_pos (k : Int) : 0 ≤ mostZ k ∧ mostZ k ≤ 1073741824 := by unfold mostZ; (repeat' split) <;> omega
theorem un_made {kd : Int} {n : Nat} {us : Nat → Wb} (hk : kd = 3 ∨ n = 0) (hn : n ≤ 2) (h : ∀ i, i < n → wbQ (2 - 1) (us i)) : unP kd n us := by
  have h1 : sumN (fun i => (us i).count) n ≤ n * cntW 1 := sumN_top fun i hi => (h i hi).2.1
  have h2 : maxN (fun i => (us i).depth) n ≤ 2 := maxN_lub fun i hi => (h i hi).2.2
  have h3 : n * cntW 1 ≤ 2 * 3 := Nat.mul_le_mul_right 3 hn
  refine ⟨hk, ?_, ?_, fun i hi => (h i hi).1⟩
  · show sumN (fun i => (us i).count) n ≤ 40
    omega
  · show maxN (fun i => (us i).depth) n ≤ 16
    omega
theorem cl_row {kd : Int} {nm : ByteArray} {e : Ex} {a : EA} {n c : Nat} {us : Nat → Wb} {am : Int} {A : Option Addr} {y0 y1 y2 y3 y4 y5 : Value} (hy : e.cells a = #[y0, y1, y2, y3, y4, y5]) :
    (Cl.mk kd nm e n us am).cells ⟨a, A, c⟩ = #[.int .i64 kd, .string nm, y0, y1, y2, y3, y4, y5, .slice A n c, .int .i64 am] ∧ (#[.int .i64 kd, .string nm, y0, y1, y2, y3, y4, y5, .slice A n c, .int .i64 am] : Array Value).toList.all (·.oneCell') = true := by
  have := Ex.cells_is e a
  rw [hy] at this
  obtain ⟨e0, e1, e2, e3, e4, e5⟩ : e.cell a 0 = y0 ∧ e.cell a 1 = y1 ∧ e.cell a 2 = y2 ∧ e.cell a 3 = y3 ∧ e.cell a 4 = y4 ∧ e.cell a 5 = y5 := by simpa using this
  have h1 := (Cl.mk kd nm e n us am).cells_one ⟨a, A, c⟩
  have h2 : (Cl.mk kd nm e n us am).cells ⟨a, A, c⟩ = #[.int .i64 kd, .string nm, y0, y1, y2, y3, y4, y5, .slice A n c, .int .i64 am] := by
    unfold Cl.cells
    simp only [e0, e1, e2, e3, e4, e5]
  exact ⟨h2, by rw [← h2]; exact h1⟩
/-- blocks above G + 1 but H -/
def tS (G H : Nat) (w : World) : Nat → Prop := fun i => G + 1 < i ∧ i ≠ H ∧ i < w.heap.size
theorem tS.up {G H : Nat} {w w' : World} (hs : w.heap.size ≤ w'.heap.size) : ∀ i, tS G H w i → tS G H w' i := fun i h => ⟨h.1, h.2.1, by have := h.2.2; omega⟩
theorem made_fin {kd : Nat} {nm : ByteArray} {b G H n c : Nat} {am : Int} {w wz w9 : World} {e : Ex} {a : EA} {A : Option Addr} {us : Nat → Wb} {y0 y1 y2 y3 y4 y5 : Value} (hkd : 1 ≤ kd ∧ kd ≤ 10) (hnm : nameB nm = true) (hy : e.cells a = #[y0, y1, y2, y3, y4, y5])
    (hin : ExIn (tS G H wz) wz e a) (hz : e.size ≤ 13 ∧ e.depth ≤ 3 ∧ e.all nodeQ) (hwb : WbsIn (tS G H wz) wz A n us) (hu : unP kd n us) (ham : amtP kd am)
    (hk : Keeps b w wz) (hd : IsDeck wz b) (hl : Leaves (fun k => k = G + 1) wz w9) (hG : w.heap.size = G) (hb : b < G) :
    MadeC kd nm b w (.returned (.agg #[.int .i64 kd, .string nm, y0, y1, y2, y3, y4, y5, .slice A n c, .int .i64 am])) w9 := by
  have hs := hl.size
  have hc : ∀ i o, tS G H wz i → w9.cell? ⟨i, o, none⟩ = wz.cell? ⟨i, o, none⟩ := fun i o hi => World.cell?_of_block (w := wz) (hl.block i hi.2.2 (by have := hi.1; omega))
  have hS : ∀ i, tS G H wz i → (w.heap.size ≤ i ∧ i < w9.heap.size) := fun i hi => ⟨by have := hi.1; omega, by have := hi.2.2; omega⟩
  exact ⟨⟨kd, nm, e, n, us, am⟩, ⟨a, A, c⟩, by rw [(cl_row hy).1], ⟨ExIn.keep hc hS _ _ hin, hwb.keep hc hS⟩, ⟨rfl, rfl, ⟨by simp only; omega, by simp only; omega⟩, hnm, ⟨by simp only; omega, by simp only; omega, hz.2.2⟩, hu, ham⟩, atom_keep hk hl hG, atom_deck hd hl hb⟩

theorem below_alloc_leaves {w1 w2 : World} {o : Obj} (hl : Leaves (fun k => k = w1.heap.size) (w1.alloc o) w2) : Below w1.heap.size w1 w2 :=
  ((Below.refl _ w1).alloc (Nat.le_refl _) o).trans (hl.below (fun k hk => by omega) (by simp))

set_option maxRecDepth 100000 in
set_option maxHeartbeats 8000000 in
theorem clause_made (b : Nat) (A An : Option Addr) (n c nn cn : Nat) (ats : Nat → Att) (f : Nat → ByteArray) (kd : Nat) (nm : ByteArray) (w : World) (hd : IsDeck w b) (hs : SchIn (off b w) w A n ats) (hnm : NmIn (off b w) w An nn f) (hkd : 1 ≤ kd ∧ kd ≤ 10) (hnb : nameB nm = true) :
    Calls Tryz.prog 32 #[.pointer (some ⟨b, 0, none⟩), .agg #[.slice A n c], .int .i64 kd, .string nm, .slice An nn cn] w (MadeC kd nm b w) := by
  have HX3 : Hid (∀ W, IsDeck W b → Keeps b w W → Calls Tryz.prog 52 #[.pointer (some ⟨b, 0, none⟩), .agg #[.slice A n c], .slice An nn cn, .int .i64 3] W (ExprP 13 3 b W)) := Lib.hid fun W hd' hk => expr_any b A An n c nn cn ats f 3 W (by omega) (by omega) hd' (hs.keeps hk) (hnm.keeps hk)
  have HB2 : Hid (∀ W, IsDeck W b → Keeps b w W → Calls Tryz.prog 53 #[.pointer (some ⟨b, 0, none⟩), .agg #[.slice A n c], .slice An nn cn, .int .i64 2] W (MadeB 2 b W)) := Lib.hid fun W hd' hk => backs_made b A An n c nn cn ats f 2 (by omega) W hd' (hs.keeps hk) (hnm.keeps hk)
  have HNB := Lib.hid hnb
  have HD0 := Lib.hid hd
  have hb := hd.lt
  have HXI := Lib.hid ex_info
  have HCI := Lib.hid cl_info
  clear hd hs hnm hnb
  obtain ⟨G, hG⟩ : ∃ G, w.heap.size = G := ⟨_, rfl⟩
  have HGE := Lib.hid hG
  obtain ⟨kz, hkz⟩ : ∃ z : Int, (kd : Int) = z := ⟨_, rfl⟩
  have HKZ := Lib.hid hkz
  rw [hkz]
  clear hkz
  go_enter Tryz.func32, Tryz.ntmps32
  go_upto_region 1 with (fail)
  have HK : Hid (Keeps b w ((w.alloc (.cells #[.slice A n c] 56)).alloc (.cells #[.int .i64 0, .string { data := #[] }, .int .i64 0, .string { data := #[] }, .slice none 0 0, .int .i64 0, .int .i64 0, .slice none 0 0, .slice none 0 0, .int .i64 0] 46))) := Lib.hid (((Keeps.refl b w).alloc _).alloc _)
  have HE := Lib.hid ((Has.new w #[.slice A n c] 56).alloc (.cells #[.int .i64 0, .string { data := #[] }, .int .i64 0, .string { data := #[] }, .slice none 0 0, .int .i64 0, .int .i64 0, .slice none 0 0, .slice none 0 0, .int .i64 0] 46))
  have HR := Lib.hid (Has.new' (w.alloc (.cells #[.slice A n c] 56)) (w.heap.size + 1) #[.int .i64 0, .string { data := #[] }, .int .i64 0, .string { data := #[] }, .slice none 0 0, .int .i64 0, .int .i64 0, .slice none 0 0, .slice none 0 0, .int .i64 0] 46 (by simp))
  have HD : Hid (IsDeck ((w.alloc (.cells #[.slice A n c] 56)).alloc (.cells #[.int .i64 0, .string { data := #[] }, .int .i64 0, .string { data := #[] }, .slice none 0 0, .int .i64 0, .int .i64 0, .slice none 0 0, .slice none 0 0, .int .i64 0] 46)) b) := Lib.hid ((HD0.out.alloc _).alloc _)
  obtain ⟨W, hW⟩ : ∃ W, (w.alloc (.cells #[.slice A n c] 56)).alloc (.cells #[.int .i64 0, .string { data := #[] }, .int .i64 0, .string { data := #[] }, .slice none 0 0, .int .i64 0, .int .i64 0, .slice none 0 0, .slice none 0 0, .int .i64 0] 46) = W := ⟨_, rfl⟩
  rw [hW] at HE HR HK HD ⊢
  rw [hG] at HE HR hb
  try rw [hG]
  clear hW hG HD0
  have hGw : w.heap.size = G := HGE.out
  have hlW : G + 1 < W.heap.size := HR.out.lt
  obtain ⟨e0, e1, e2⟩ := HE.out.rules
  go_wp2_with fail
  refine (HX3.out _ HD.out HK.out).mono ?_
  rintro r w1 ⟨e, a, rfl, hin, hz, hk, hd⟩
  have HIN : Hid (ExIn (fun i => W.heap.size ≤ i ∧ i < w1.heap.size) w1 e a) := Lib.hid hin
  have HEZ := Lib.hid hz
  have hs1 := hk.size
  replace HK := Lib.hid (HK.out.trans hk)
  replace HD := Lib.hid hd
  replace HE := Lib.hid (HE.out.keeps hk (by omega))
  replace HR := Lib.hid (HR.out.keeps hk (by omega))
  obtain ⟨y0, y1, y2, y3, y4, y5, hyy⟩ : ∃ y0 y1 y2 y3 y4 y5, e.cells a = #[y0, y1, y2, y3, y4, y5] := ⟨_, _, _, _, _, _, (Ex.cells_is e a).symm⟩
  have HY := Lib.hid hyy
  rw [hyy]
  clear hin hz hk hd hyy HX3 e0 e1 e2
  have HZ : Hid (Has (w1.alloc (.cells #[.int .i64 0, .string { data := #[] }, .int .i64 0, .string { data := #[] }, .slice none 0 0, .int .i64 0, .int .i64 0, .slice none 0 0, .slice none 0 0, .int .i64 0] 46)) w1.heap.size #[.int .i64 0, .string { data := #[] }, .int .i64 0, .string { data := #[] }, .slice none 0 0, .int .i64 0, .int .i64 0, .slice none 0 0, .slice none 0 0, .int .i64 0] 46) := Lib.hid (Has.new w1 _ _)
  go_upto_region 2 with ((refine wpList_store_has ?_ 46 (.tmp 11) (.tmp 19) ?_ w1.heap.size ?_ #[.int .i64 kz, .string nm, y0, y1, y2, y3, y4, y5, .slice none 0 0, .int .i64 0] ?_ _ _ HZ.out HCI.out ?_ ?_ ?_; rfl; rfl; rfl; rfl; rfl; exact (cl_row (us := fun _ => .bot) HY.out).2; intro w2 hh2 hl2))
  have hbm := below_alloc_leaves hl2
  have hs2 := hbm.size
  have HL : Hid (Below w1.heap.size w1 w2) := Lib.hid hbm
  have HH := Lib.hid hh2
  replace HIN : Hid (ExIn (tS G w1.heap.size w2) w2 e a) := Lib.hid (ExIn.keep (fun i o hi => hbm.cell (p := ⟨i, o, none⟩) hi.2) (fun i hi => ⟨by omega, by omega, by omega⟩) _ _ HIN.out)
  replace HK := Lib.hid (HK.out.then hbm (by omega))
  replace HD := Lib.hid (HD.out.below hbm (by omega))
  replace HE := Lib.hid (HE.out.below hbm (by omega))
  replace HR := Lib.hid (HR.out.below hbm (by omega))
  obtain ⟨H, hH⟩ : ∃ H, w1.heap.size = H := ⟨_, rfl⟩
  rw [hH] at HH HIN ⊢
  have hGH : G + 1 < H := by omega
  clear hh2 hl2 hbm HL HZ hs1 hs2 hH
  by_cases h3 : kz = 3
  · subst h3
    obtain ⟨e0, e1, e2⟩ := HE.out.rules
    have hl2 : H < w2.heap.size := HH.out.lt
    go_wp2_with fail
    refine (HB2.out _ HD.out HK.out).mono ?_
    rintro r w3 ⟨A2, n2, c2, us2, rfl, hn2, hn0, hwi, hwq, hk, hd⟩
    have hs3 := hk.size
    have HUN : Hid (unP kd n2 us2) := Lib.hid (un_made (.inl HKZ.out) hn2 hwq)
    replace HIN : Hid (ExIn (tS G H w3) w3 e a) := Lib.hid (ExIn.keep (fun i o hi => World.cell?_of_block (w := w2) (hk.block i hi.2.2 (by have := hi.1; omega))) (tS.up hs3) _ _ HIN.out)
    have HWI : Hid (WbsIn (tS G H w3) w3 A2 n2 us2) := Lib.hid (hwi.keep (fun _ _ _ => rfl) (fun i hi => ⟨by omega, by omega, hi.2⟩))
    replace HK := Lib.hid (HK.out.trans hk)
    replace HD := Lib.hid hd
    replace HH := Lib.hid (HH.out.keeps hk (by omega))
    replace HR := Lib.hid (HR.out.keeps hk (by omega))
    clear hk hd hwi hwq hn0 hn2 e0 e1 e2 HE HB2
    obtain ⟨z0, z1, z2⟩ := HH.out.rules
    go_upto_region 4 with (fail)
    have HAM : Hid (amtP kd 0) := Lib.hid (by rw [HKZ.out]; exact ⟨by decide, by decide⟩)
    have hpt : ∀ i o, tS G H w3 i → (w3.setCell ⟨H, 8, none⟩ (.slice A2 n2 c2)).cell? ⟨i, o, none⟩ = w3.cell? ⟨i, o, none⟩ := fun i o hi => World.cell?_setCell_other w3 _ _ _ (fun e => by injection e with e; exact hi.2.1 e.symm)
    have hps : ∀ i, tS G H w3 i → tS G H (w3.setCell ⟨H, 8, none⟩ (.slice A2 n2 c2)) i := tS.up (by simp)
    replace HIN := Lib.hid (ExIn.keep hpt hps _ _ HIN.out)
    replace HWI := Lib.hid (HWI.out.keep hpt hps)
    replace HH : Hid (Has (w3.setCell ⟨H, 8, none⟩ (.slice A2 n2 c2)) H #[.int .i64 3, .string nm, y0, y1, y2, y3, y4, y5, .slice A2 n2 c2, .int .i64 0] 46) := Lib.hid (HH.out.put 8 _)
    replace HR := Lib.hid (HR.out.far (p := ⟨H, 8, none⟩) (by simp only; omega) (.slice A2 n2 c2))
    replace HK := Lib.hid (HK.out.far (p := ⟨H, 8, none⟩) (by simp only; omega) (.slice A2 n2 c2))
    replace HD : Hid (IsDeck (w3.setCell ⟨H, 8, none⟩ (.slice A2 n2 c2)) b) := Lib.hid (HD.out.far (by simp only; omega) _)
    obtain ⟨w4, hw4⟩ : ∃ z, w3.setCell ⟨H, 8, none⟩ (.slice A2 n2 c2) = z := ⟨_, rfl⟩
    rw [hw4] at HIN HWI HH HR HK HD ⊢
    clear hw4 hpt hps z0 z1 z2
    go_wp2_with fail
    refine (rmost_any 3 _).mono ?_
    rintro r w5 ⟨rfl, rfl⟩
    have hm0 : mostZ 3 = 0 := rfl
    rw [hm0]
    clear hm0
    go_wp2_with (first
      | (refine wpList_load_has ?_ 46 (.tmp 11) ?_ H ?_ _ _ _ HH.out Tryz.underlying46 ?_ HCI.out ?_; rfl; rfl; rfl; rfl)
      | (refine wpList_store_has ?_ 46 (.tmp 10) (.tmp 37) ?_ (G + 1) ?_ #[.int .i64 3, .string nm, y0, y1, y2, y3, y4, y5, .slice A2 n2 c2, .int .i64 0] ?_ _ _ HR.out HCI.out ?_ ?_ ?_; rfl; rfl; rfl; rfl; rfl; exact (cl_row (us := fun _ => Wb.bot) HY.out).2; intro w99 hh9 hl9))
    refine bodyPost_ret (results_cell_row rfl _ _ (G + 1) _ _ _ _ ?_ hh9 Tryz.underlying46 rfl HCI.out) rfl ?_
    · rfl
    · rw [← HKZ.out]
      exact made_fin hkd HNB.out HY.out HIN.out HEZ.out HWI.out HUN.out HAM.out HK.out HD.out hl9 hGw hb
  · have q3 : (kz == 3) = false := by rw [beq_eq_false_iff_ne]; exact h3
    have HUN : Hid (unP kd 0 fun _ => Wb.bot) := Lib.hid (un_made (.inr rfl) (by omega) (fun i hi => by omega))
    have HWI : Hid (WbsIn (tS G H w2) w2 none 0 fun _ => Wb.bot) := Lib.hid ⟨Nat.zero_le _, fun _ => ⟨⟨none, 0, none, 0⟩, none, 0⟩, CellsS.zero, fun i hi => by omega⟩
    obtain ⟨e0, e1, e2⟩ := HE.out.rules
    have hl2 : H < w2.heap.size := HH.out.lt
    go_wp2_with fail
    refine (rmost_any kz _).mono ?_
    rintro r w5 ⟨rfl, rfl⟩
    have hm1 := mostZ_pos kz
    have HMZ : Hid (∀ am, min 1 (mostZ kz) ≤ am → am ≤ mostZ kz → amtP kd am) := Lib.hid fun am h1 h2 => by rw [HKZ.out]; exact ⟨h1, h2⟩
    obtain ⟨mz, hmz⟩ : ∃ z, mostZ kz = z := ⟨_, rfl⟩
    rw [hmz] at hm1 HMZ ⊢
    clear hmz
    by_cases hm : 0 < mz
    · have hwm : IntKind.i64.wrap (mz - 1) = mz - 1 := by rw [IntKind.wrap_i64]; omega
      go_wp2_with fail
      refine (upto_any b (mz - 1) _ HD.out (by omega) (by omega)).mono ?_
      rintro r w6 ⟨u, rfl, u0, u1, hk, hd⟩
      have hwu : IntKind.i64.wrap (1 + u) = 1 + u := by rw [IntKind.wrap_i64]; omega
      have HAM : Hid (amtP kd (1 + u)) := Lib.hid (HMZ.out _ (by omega) (by omega))
      have hs3 := hk.size
      replace HIN : Hid (ExIn (tS G H w6) w6 e a) := Lib.hid (ExIn.keep (fun i o hi => World.cell?_of_block (w := w2) (hk.block i hi.2.2 (by have := hi.1; omega))) (tS.up hs3) _ _ HIN.out)
      replace HWI : Hid (WbsIn (tS G H w6) w6 none 0 fun _ => Wb.bot) := Lib.hid ⟨Nat.zero_le _, fun _ => ⟨⟨none, 0, none, 0⟩, none, 0⟩, CellsS.zero, fun i hi => by omega⟩
      replace HK := Lib.hid (HK.out.trans hk)
      replace HD := Lib.hid hd
      replace HH := Lib.hid (HH.out.keeps hk (by omega))
      replace HR := Lib.hid (HR.out.keeps hk (by omega))
      clear hk hd e0 e1 e2 HE HB2
      obtain ⟨z0, z1, z2⟩ := HH.out.rules
      go_upto_region 7 with (fail)
      have hpt : ∀ i o, tS G H w6 i → (w6.setCell ⟨H, 9, none⟩ (.int .i64 (1 + u))).cell? ⟨i, o, none⟩ = w6.cell? ⟨i, o, none⟩ := fun i o hi => World.cell?_setCell_other w6 _ _ _ (fun e => by injection e with e; exact hi.2.1 e.symm)
      have hps : ∀ i, tS G H w6 i → tS G H (w6.setCell ⟨H, 9, none⟩ (.int .i64 (1 + u))) i := tS.up (by simp)
      replace HIN := Lib.hid (ExIn.keep hpt hps _ _ HIN.out)
      replace HWI := Lib.hid (HWI.out.keep hpt hps)
      replace HH : Hid (Has (w6.setCell ⟨H, 9, none⟩ (.int .i64 (1 + u))) H #[.int .i64 kz, .string nm, y0, y1, y2, y3, y4, y5, .slice none 0 0, .int .i64 (1 + u)] 46) := Lib.hid (HH.out.put 9 _)
      replace HR := Lib.hid (HR.out.far (p := ⟨H, 9, none⟩) (by simp only; omega) (.int .i64 (1 + u)))
      replace HK := Lib.hid (HK.out.far (p := ⟨H, 9, none⟩) (by simp only; omega) (.int .i64 (1 + u)))
      replace HD : Hid (IsDeck (w6.setCell ⟨H, 9, none⟩ (.int .i64 (1 + u))) b) := Lib.hid (HD.out.far (by simp only; omega) _)
      obtain ⟨w7, hw7⟩ : ∃ z, w6.setCell ⟨H, 9, none⟩ (.int .i64 (1 + u)) = z := ⟨_, rfl⟩
      rw [hw7] at HIN HWI HH HR HK HD ⊢
      clear hw7 hpt hps z0 z1 z2
      go_wp2_with (first
        | (refine wpList_load_has ?_ 46 (.tmp 11) ?_ H ?_ _ _ _ HH.out Tryz.underlying46 ?_ HCI.out ?_; rfl; rfl; rfl; rfl)
        | (refine wpList_store_has ?_ 46 (.tmp 10) (.tmp 37) ?_ (G + 1) ?_ #[.int .i64 kz, .string nm, y0, y1, y2, y3, y4, y5, .slice none 0 0, .int .i64 (1 + u)] ?_ _ _ HR.out HCI.out ?_ ?_ ?_; rfl; rfl; rfl; rfl; rfl; exact (cl_row (us := fun _ => Wb.bot) HY.out).2; intro w99 hh9 hl9))
      refine bodyPost_ret (results_cell_row rfl _ _ (G + 1) _ _ _ _ ?_ hh9 Tryz.underlying46 rfl HCI.out) rfl ?_
      · rfl
      · rw [← HKZ.out]
        exact made_fin hkd HNB.out HY.out HIN.out HEZ.out HWI.out HUN.out HAM.out HK.out HD.out hl9 hGw hb
    · have HAM : Hid (amtP kd 0) := Lib.hid (HMZ.out _ (by omega) (by omega))
      go_wp2_with (first
        | (refine wpList_load_has ?_ 46 (.tmp 11) ?_ H ?_ _ _ _ HH.out Tryz.underlying46 ?_ HCI.out ?_; rfl; rfl; rfl; rfl)
        | (refine wpList_store_has ?_ 46 (.tmp 10) (.tmp 37) ?_ (G + 1) ?_ #[.int .i64 kz, .string nm, y0, y1, y2, y3, y4, y5, .slice none 0 0, .int .i64 0] ?_ _ _ HR.out HCI.out ?_ ?_ ?_; rfl; rfl; rfl; rfl; rfl; exact (cl_row (us := fun _ => Wb.bot) HY.out).2; intro w99 hh9 hl9))
      refine bodyPost_ret (results_cell_row rfl _ _ (G + 1) _ _ _ _ ?_ hh9 Tryz.underlying46 rfl HCI.out) rfl ?_
      · rfl
      · rw [← HKZ.out]
        exact made_fin hkd HNB.out HY.out HIN.out HEZ.out HWI.out HUN.out HAM.out HK.out HD.out hl9 hGw hb
end Go.Proofs.YtlbkhhbbkedhkaaGreatDoor
namespace Go.Proofs.YtlbkhhbbkedhkaaGreatDoor
open Go.RowKit
set_option linter.unusedVariables false

/-- an index and whether it was found -/
def IxPost (n : Nat) (w : World) (r : Ending) (w' : World) : Prop := (∃ (k : Nat) (v : Bool), r = .returned (.tuple #[.int .i64 k, .bool v]) ∧ (v = true → k < n)) ∧ w = w'
theorem part_at {w : World} {B n s k : Nat} {A : Option Addr} {f : Nat → Nat → Value} (h : Cells w B A (n * s) (fun j => f (j / s) (j % s))) (hk : k < n) (hs : 0 < s) :
    ∃ b o, A = some ⟨b, o, none⟩ ∧ b < B ∧ ∀ j, j < s → w.cell? ⟨b, o + k * s + j, none⟩ = some (f k j) := by
  have h1 := Nat.mul_le_mul_right s (show k + 1 ≤ n by omega)
  rw [Nat.succ_mul] at h1
  obtain ⟨b, o, e, hb, hc⟩ := Cells.plain h (by omega)
  refine ⟨b, o, e, hb, fun j hj => ?_⟩
  rw [Nat.add_assoc, hc (k * s + j) (by omega), (at_div hs hj).1, (at_div hs hj).2]

set_option maxRecDepth 100000 in
set_option maxHeartbeats 4000000 in
theorem definition_any (A : Option Addr) (c n : Nat) (cs : Nat → Cl) (s : ByteArray) (w : World) (h : ClsAt w w.heap.size A n cs) (hn : n ≤ 100000) :
    Calls Tryz.prog 92 #[.slice A n c, .string s] w (IxPost n w) := by
  obtain ⟨_, P, hcc, _⟩ := h
  have HX := Lib.hid hcc
  clear hcc
  go_enter Tryz.func92, Tryz.ntmps92
  go_wp2_with fail
  go_loopw [6] (fun i wr => ∃ k : Nat, k ≤ n ∧ i = .int .i64 k ∧ w = wr) (fun i _ => n - (intOf i).toNat)
  case atStart => exact ⟨0, Nat.zero_le _, rfl, rfl⟩
  case round =>
    obtain ⟨k, hk, rfl, rfl⟩ := hrel
    by_cases hlt : k < n
    · obtain ⟨bb, o, hAa, hbb, hcc⟩ := part_at (f := fun i j => (cs i).cell (P i) j) HX.out hlt (by omega)
      subst hAa
      have c0 : w.cell? ⟨bb, o + k * 10, none⟩ = some (.int .i64 (cs k).kind) := hcc 0 (by omega)
      have c1 : w.cell? ⟨bb, o + k * 10 + 1, none⟩ = some (.string (cs k).name) := hcc 1 (by omega)
      have hk0 : (0 : Int) ≤ k := by omega
      have hk1 : (k : Int) < n := by omega
      obtain ⟨kd, hkd⟩ : ∃ z, (cs k).kind = z := ⟨_, rfl⟩
      obtain ⟨nm, hnm⟩ : ∃ z, (cs k).name = z := ⟨_, rfl⟩
      rw [hkd] at c0
      rw [hnm] at c1
      clear hkd hnm hcc
      have hnum : IntKind.i64.wrap ((k : Int) + 1) = ((k + 1 : Nat) : Int) := by rw [IntKind.wrap_i64]; omega
      by_cases h1 : kd = 1
      · subst h1
        by_cases he : nm = s
        · have he' := bytes_eq.2 he
          clear he
          go_wp2_with fail
          go_ret2
          exact ⟨⟨k, true, rfl, fun _ => hlt⟩, rfl⟩
        · have he' := bytes_ne he
          go_wp2_with fail
          go_roundw
          case rel => exact ⟨k + 1, by omega, by go_num, trivial⟩
          case measure => simp [intOf]; omega
      · have q1 : (kd == 1) = false := by rw [beq_eq_false_iff_ne]; exact h1
        go_wp2_with fail
        go_roundw
        case rel => exact ⟨k + 1, by omega, by go_num, trivial⟩
        case measure => simp [intOf]; omega
    · have hkn : k = n := by omega
      subst hkn
      have hdd : decide ((k : Int) < k) = false := by rw [decide_eq_false_iff_not]; omega
      go_wp2_with fail
      go_ret2
      exact ⟨⟨0, false, rfl, fun h => by cases h⟩, rfl⟩

/-- a schema that lies below a block -/
abbrev lo (B : Nat) : Nat → Prop := fun i => i < B
set_option maxRecDepth 100000 in
set_option maxHeartbeats 4000000 in
theorem index_any (A : Option Addr) (c n : Nat) (ats : Nat → Att) (s : ByteArray) (w : World) (h : SchIn (lo w.heap.size) w A n ats) :
    Calls Tryz.prog 59 #[.agg #[.slice A n c], .string s] w (fun r w' => (∃ (k : Nat) (v : Bool), r = .returned (.tuple #[.int .i64 k, .bool v]) ∧ (v = true → k < n)) ∧ Below w.heap.size w w') := by
  obtain ⟨hn, Q, hcc, _⟩ := h
  have HX : Hid (Cells w w.heap.size A (n * 5) (fun j => (ats (j / 5)).cell (Q (j / 5)) (j % 5))) := Lib.hid (hcc.to fun _ h => h)
  clear hcc
  obtain ⟨G, hG⟩ : ∃ G, w.heap.size = G := ⟨_, rfl⟩
  have HGE := Lib.hid hG
  go_enter Tryz.func59, Tryz.ntmps59
  go_upto_region 1 with (fail)
  have HB : Hid (Below w.heap.size w (w.alloc (.cells #[.slice A n c] 56))) := Lib.hid ((Below.refl _ _).alloc (Nat.le_refl _) _)
  have HE := Lib.hid (Has.new w #[.slice A n c] 56)
  replace HX := Lib.hid (HX.out.below HB.out)
  obtain ⟨W, hW⟩ : ∃ W, w.alloc (.cells #[.slice A n c] 56) = W := ⟨_, rfl⟩
  rw [hW] at HB HE HX ⊢
  rw [hG] at HE
  try rw [hG]
  clear hW hG
  obtain ⟨e0, e1, e2⟩ := HE.out.rules
  go_wp2_with fail
  go_loopw [6] (fun i wr => ∃ k : Nat, k ≤ n ∧ i = .int .i64 k ∧ W = wr) (fun i _ => n - (intOf i).toNat)
  case atStart => exact ⟨0, Nat.zero_le _, rfl, rfl⟩
  case round =>
    obtain ⟨k, hk, rfl, rfl⟩ := hrel
    by_cases hlt : k < n
    · obtain ⟨bb, o, hAa, hbb, hcc⟩ := part_at (f := fun i j => (ats i).cell (Q i) j) HX.out hlt (by omega)
      subst hAa
      have c0 : W.cell? ⟨bb, o + k * 5, none⟩ = some (.string (ats k).name) := hcc 0 (by omega)
      have hk0 : (0 : Int) ≤ k := by omega
      have hk1 : (k : Int) < n := by omega
      obtain ⟨nm, hnm⟩ : ∃ z, (ats k).name = z := ⟨_, rfl⟩
      rw [hnm] at c0
      clear hnm hcc
      have hnum : IntKind.i64.wrap ((k : Int) + 1) = ((k + 1 : Nat) : Int) := by rw [IntKind.wrap_i64]; omega
      by_cases he : nm = s
      · have he' := bytes_eq.2 he
        clear he
        go_wp2_with fail
        go_ret2
        exact ⟨⟨k, true, rfl, fun _ => hlt⟩, HB.out⟩
      · have he' := bytes_ne he
        go_wp2_with fail
        go_roundw
        case rel => exact ⟨k + 1, by omega, by go_num, trivial⟩
        case measure => simp [intOf]; omega
    · have hkn : k = n := by omega
      subst hkn
      have hdd : decide ((k : Int) < k) = false := by rw [decide_eq_false_iff_not]; omega
      go_wp2_with fail
      go_ret2
      exact ⟨⟨0, false, rfl, fun h => by cases h⟩, HB.out⟩
end Go.Proofs.YtlbkhhbbkedhkaaGreatDoor
