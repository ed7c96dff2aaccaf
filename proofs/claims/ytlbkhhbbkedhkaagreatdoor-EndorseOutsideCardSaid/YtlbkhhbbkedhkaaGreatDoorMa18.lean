/- The deck's atoms: expressions without arguments. -/
import Derived.Test.YtlbkhhbbkedhkaaGreatDoorMa17
import Derived.Deep.CutBlock
import Derived.Deep.DeepCutAuto
import Derived.Deep.RegionHeld3
namespace Go.Proofs.YtlbkhhbbkedhkaaGreatDoor
open Go.RowKit
set_option linter.unusedVariables false

theorem Keeps.drew {b : Nat} {a w : World} (h : Keeps b a w) : Keeps b a w.drew := ⟨h.os, h.tape, h.output, h.size, h.block⟩
theorem Keeps.then {b M : Nat} {a w w' : World} (h : Keeps b a w) (hb : Below M w w') (hM : a.heap.size ≤ M) : Keeps b a w' :=
  ⟨hb.os.trans h.os, hb.tape.trans h.tape, hb.output.trans h.output, Nat.le_trans h.size hb.size, fun i hi hn => (hb.block i (by omega)).trans (h.block i hi hn)⟩
theorem keep_new {b G : Nat} {w w' : World} (hk : Keeps b w w') (hb : b < G) : (∀ o, G < w.heap.size → w'.cell? ⟨G, o, none⟩ = w.cell? ⟨G, o, none⟩) ∧ (∀ o, G < w.heap.size → w'.frozen? ⟨G, o, none⟩ = w.frozen? ⟨G, o, none⟩) :=
  ⟨fun o h => World.cell?_of_block (w := w) (hk.block G h (by omega)), fun o h => World.frozen?_of_block (w := w) (hk.block G h (by omega))⟩
theorem IsDeck.drew {b : Nat} {w : World} (h : IsDeck w b) : IsDeck w.drew b := h.drewN 1
/-- five cells that a pointer leads to -/
def AtPtr (w : World) (v : Value) (cs : Array Value) : Prop := ∃ b o, v = .pointer (some ⟨b, o, none⟩) ∧ w.rangeAt b o cs.toList ∧ cs.size = 5
def atCells (w : World) (v : Value) : Array Value := match v with
  | .pointer (some a) => #[(w.cell? ⟨a.block, a.off, none⟩).getD undef, (w.cell? ⟨a.block, a.off + 1, none⟩).getD undef, (w.cell? ⟨a.block, a.off + 2, none⟩).getD undef, (w.cell? ⟨a.block, a.off + 3, none⟩).getD undef, (w.cell? ⟨a.block, a.off + 4, none⟩).getD undef]
  | _ => #[]
theorem AtPtr.cells {w : World} {v : Value} {cs : Array Value} (h : AtPtr w v cs) : atCells w v = cs := by
  obtain ⟨b, o, rfl, hr, hs⟩ := h
  have hg : ∀ j (hj : j < 5), (w.cell? ⟨b, o + j, none⟩).getD undef = cs[j] := fun j hj => by
    rw [hr j cs[j] (by simp)]
    rfl
  apply Array.ext
  · rw [hs]; rfl
  · intro i h1 h2
    rw [hs] at h2
    match i, h2 with
    | 0, _ => exact hg 0 (by omega)
    | 1, _ => exact hg 1 (by omega)
    | 2, _ => exact hg 2 (by omega)
    | 3, _ => exact hg 3 (by omega)
    | 4, _ => exact hg 4 (by omega)
    | i + 5, h => omega
theorem exec_load_at {ev : Operand → Value} {d : Option Tmp} {x : Operand} {ty : TypeId} {pos : String} {af : Array Edge} {g : Option (Nat × Bool)} {w : World} (h : ∃ cs, AtPtr w (ev x) cs) :
    (execOp ev { dst := d, op := .load 80 x, type := ty, pos := pos, after := af, guard := g }).run Tryz.prog w = .ok (.value (.agg (atCells w (ev x)))) w := by
  obtain ⟨cs, hh⟩ := h
  rw [hh.cells]
  obtain ⟨b, o, hv, hb, hc⟩ := hh
  unfold execOp
  simp only [hv, Instr.loadAt, Instr.sureAddr, Sem.run_bind, Sem.run_pure, Result.andThen_ok, run_loadVar_mid w b o 80 cs.toList _ hb Tryz.underlying80 rfl (by rw [Array.length_toList, hc]; exact at_info), Array.toArray_toList]
attribute [local go_sem ↓] exec_load_at
/-- what the deck's functions return: an expression in fresh blocks, of at most a size and a depth -/
def ExprP (s d b : Nat) (w : World) (r : Ending) (w' : World) : Prop := ∃ (e : Ex) (a : EA), r = .returned (.agg (e.cells a)) ∧ ExIn (fun i => w.heap.size ≤ i ∧ i < w'.heap.size) w' e a ∧ (e.size ≤ s ∧ e.depth ≤ d ∧ e.all nodeQ) ∧ Keeps b w w' ∧ IsDeck w' b

theorem leaf_out {b : Nat} {w w' : World} {o : Nat} {name : ByteArray} {nw cw : Nat} {ws : Nat → ByteArray} {lo hi : Int} {Aw : Option Addr} (ho : o = 1 ∨ o = 2 ∨ o = 3 ∨ o = 4 ∨ o = 5) (hf : nodeF o name nw ws lo hi) (hn : nw ≤ cw) (h12 : nw ≤ 12)
    (hc : CellsS (fun i => w.heap.size ≤ i ∧ i < w'.heap.size) w' Aw nw (fun j => .string (ws j))) (hk : Keeps b w w') (hd : IsDeck w' b) :
    ExprP 1 1 b w (.returned (.agg #[.int .i64 o, .string name, .slice Aw nw cw, .int .i64 lo, .int .i64 hi, .slice none 0 0])) w' :=
  ⟨.mk o name nw ws lo hi 0 (fun _ => .bot), ⟨Aw, cw, none, 0⟩, rfl, ⟨⟨by unfold big; omega, hn⟩, ⟨Nat.zero_le _, Nat.le_refl _⟩, hc, fun _ => ⟨none, 0, none, 0⟩, CellsS.zero, fun i hi => by omega⟩,
    ⟨Nat.le_refl _, Nat.le_refl _, ⟨o, rfl, by omega, by unfold tLo tHi; rw [if_neg (by omega), if_neg (by omega), if_neg (by omega), if_neg (by omega)]; omega, hf⟩, fun i hi => by omega⟩, hk, hd⟩

set_option maxRecDepth 100000 in
theorem str_all : (Tryz.prog.info? 9).map (fun i => (i.zero, i.size, i.bytes)) = some (some (.string ByteArray.empty), 1, 16) := by kernel_rfl
theorem rowL_snoc (m : Nat) (F : Nat → Value) : rowL m F ++ [F m] = rowL (m + 1) F := by unfold rowL; rw [List.range_succ, List.map_append]; rfl
theorem atom_keep {b G : Nat} {w w1 w2 : World} (hk : Keeps b w w1) (hl : Leaves (fun k => k = G + 1) w1 w2) (hG : w.heap.size = G) : Keeps b w w2 :=
  ⟨hl.os.trans hk.os, hl.tape.trans hk.tape, hl.output.trans hk.output, Nat.le_trans hk.size hl.size, fun i hi hn => (hl.block i (by have := hk.size; omega) (by omega)).trans (hk.block i hi hn)⟩
theorem atom_deck {b G : Nat} {w1 w2 : World} (hd : IsDeck w1 b) (hl : Leaves (fun k => k = G + 1) w1 w2) (hb : b < G) : IsDeck w2 b :=
  hd.below (B := b + 1) (hl.below (fun k hk => by omega) (by have := hd.lt; omega)) (by omega)

theorem rot_words {nw F0 m : Nat} {ws : Nat → ByteArray} (hn : namesP nw ws) (hd : distP nw ws) (hm : 1 ≤ m ∧ m ≤ nw) (h12 : nw ≤ 12) : wordsP m (fun i => ws ((F0 + i) % nw)) := by
  refine ⟨⟨hm.1, by omega⟩, fun i hi => hn _ (Nat.mod_lt _ (by omega)), fun i hi k hk h => ?_⟩
  have hl : ∀ j, (F0 + j) % nw < nw := fun j => Nat.mod_lt _ (by omega)
  have hne : (F0 + i) % nw ≠ (F0 + k) % nw := fun e => by
    have := Nat.sub_mod_eq_zero_of_mod_eq e
    rw [show F0 + i - (F0 + k) = i - k from by omega, Nat.mod_eq_of_lt (by omega)] at this
    omega
  rcases Nat.lt_or_gt_of_ne hne with g | g
  · exact hd _ (hl k) _ g h.symm
  · exact hd _ (hl i) _ g h
theorem rot_out {w wr w99 : World} {M G m cv : Nat} {Av : Option Addr} {f : Nat → ByteArray} (h : wr.ownsRow (M + 1) 9 1 (.slice Av m cv) m (rowL m fun i => .string (f i))) (hl : Leaves (fun k => k = G + 1) wr w99) (hG : G + 1 < M + 1) (hw : w.heap.size ≤ M + 1) (hm : 1 ≤ m) :
    m ≤ cv ∧ CellsS (fun i => w.heap.size ≤ i ∧ i < w99.heap.size) w99 Av m (fun j => .string (f j)) := by
  rcases Own.made (F := fun i => .string (f i)) h (fun j hj => rowL_get _ _ j (by omega)) with ⟨_, h0⟩ | ⟨g, cap, e, ho⟩
  · omega
  · injection e with e1 e2 e3
    subst e1
    subst e3
    have hb := ho.base_le
    have ho' := ho.of_block (hl.block g ho.lt (by omega))
    exact ⟨ho.len.1, fun _ => ⟨g, 0, rfl, ⟨by omega, ho'.lt⟩, fun j hj => by rw [Nat.zero_add]; exact ho'.cell (by omega)⟩⟩

set_option maxRecDepth 100000 in
set_option maxHeartbeats 8000000 in
theorem atom_any (b : Nat) (A An : Option Addr) (n c nn cn : Nat) (ats : Nat → Att) (f : Nat → ByteArray) (w : World) (hd : IsDeck w b) (hs : SchIn (off b w) w A n ats) (hnm : NmIn (off b w) w An nn f) :
    Calls Tryz.prog 85 #[.pointer (some ⟨b, 0, none⟩), .agg #[.slice A n c], .slice An nn cn] w (ExprP 1 1 b w) := by
  have HD := Lib.hid hd
  have HSC := Lib.hid hs
  have HNM := Lib.hid hnm
  have hb := hd.lt
  have hn1 := hs.1
  have hnn := hnm.1
  have HXI := Lib.hid ex_info
  have HTI := Lib.hid at_info
  clear hd hs hnm
  obtain ⟨G, hG⟩ : ∃ G, w.heap.size = G := ⟨_, rfl⟩
  have HGE := Lib.hid hG
  go_enter Tryz.func85, Tryz.ntmps85
  go_upto_region 1 with (fail)
  have HK : Hid (Keeps b w ((w.alloc (.cells #[.slice A n c] 56)).alloc (.cells #[.int .i64 0, .string { data := #[] }, .slice none 0 0, .int .i64 0, .int .i64 0, .slice none 0 0] 43))) := Lib.hid (((Keeps.refl b w).alloc _).alloc _)
  have HE := Lib.hid ((Has.new w #[.slice A n c] 56).alloc (.cells #[.int .i64 0, .string { data := #[] }, .slice none 0 0, .int .i64 0, .int .i64 0, .slice none 0 0] 43))
  have HR := Lib.hid (Has.new' (w.alloc (.cells #[.slice A n c] 56)) (w.heap.size + 1) #[.int .i64 0, .string { data := #[] }, .slice none 0 0, .int .i64 0, .int .i64 0, .slice none 0 0] 43 (by simp))
  have HD1 : Hid (IsDeck ((w.alloc (.cells #[.slice A n c] 56)).alloc (.cells #[.int .i64 0, .string { data := #[] }, .slice none 0 0, .int .i64 0, .int .i64 0, .slice none 0 0] 43)) b) := Lib.hid ((HD.out.alloc _).alloc _)
  replace HSC := Lib.hid (HSC.out.keeps HK.out)
  replace HNM := Lib.hid (HNM.out.keeps HK.out)
  obtain ⟨W, hW⟩ : ∃ W, (w.alloc (.cells #[.slice A n c] 56)).alloc (.cells #[.int .i64 0, .string { data := #[] }, .slice none 0 0, .int .i64 0, .int .i64 0, .slice none 0 0] 43) = W := ⟨_, rfl⟩
  rw [hW] at HE HR HK HD1 HSC HNM ⊢
  rw [hG] at HE HR hb
  try rw [hG]
  clear hW hG HD
  have hGw : w.heap.size = G := HGE.out
  go_cut [20] (fun v wx => ∃ t : Bool, v = .bool t ∧ Hid (t = true → 0 < nn) ∧ Hid (Keeps b w wx) ∧ Hid (IsDeck wx b) ∧ Hid (SchIn (off b wx) wx A n ats) ∧ Hid (NmIn (off b wx) wx An nn f) ∧ Hid (Has wx G #[.slice A n c] 56) ∧ Hid (Has wx (G + 1) #[.int .i64 0, .string { data := #[] }, .slice none 0 0, .int .i64 0, .int .i64 0, .slice none 0 0] 43))
  case first =>
    by_cases h0 : 0 < nn
    · have h0' : (0 : Int) < nn := by omega
      go_wp2_with fail
      refine (next_any b 3 _ HD1.out (by omega) (by omega)).mono ?_
      rintro e w2 ⟨v, rfl, v0, v1, hk2, hd2⟩
      replace HK := Lib.hid (HK.out.trans hk2)
      replace HD1 := Lib.hid hd2
      replace HE := Lib.hid (HE.out.keeps hk2 (by omega))
      replace HR := Lib.hid (HR.out.keeps hk2 (by omega))
      replace HSC := Lib.hid (HSC.out.keeps hk2)
      replace HNM := Lib.hid (HNM.out.keeps hk2)
      clear hk2 hd2
      go_wp2_with fail
      go_meet
      exact ⟨_, rfl, Lib.hid fun _ => h0, HK, HD1, HSC, HNM, HE, HR⟩
    · have h0' : (nn : Int) ≤ 0 := by omega
      go_wp2_with fail
      go_meet
      exact ⟨false, rfl, Lib.hid fun c => (by cases c), HK, HD1, HSC, HNM, HE, HR⟩
  case rest =>
    obtain ⟨t, rfl, HT, HK, HD, HSC, HNM, HE, HR⟩ := hcut
    cases t with
    | true =>
      have h0 := HT.out rfl
      have h0' : (0 : Int) < nn := by omega
      go_wp2_with fail
      refine (next_any b nn _ HD.out (by omega) (by omega)).mono ?_
      rintro e w3 ⟨u, rfl, u0, u1, hk2, hd2⟩
      replace HK := Lib.hid (HK.out.trans hk2)
      replace HD := Lib.hid hd2
      replace HR := Lib.hid (HR.out.keeps hk2 (by omega))
      replace HNM := Lib.hid (HNM.out.keeps hk2)
      clear hk2 hd2 HE HSC
      obtain ⟨j, hj⟩ : ∃ j : Nat, u = j := ⟨u.toNat, by omega⟩
      subst hj
      have hjn : j < nn := by omega
      obtain ⟨bb, o, hAn, hbb, hcc⟩ := HNM.out.2.1 (by omega)
      subst hAn
      obtain ⟨s, hs⟩ : ∃ z, f j = z := ⟨_, rfl⟩
      have hc0 : w3.cell? ⟨bb, o + j, none⟩ = some (.string s) := by rw [← hs]; exact hcc j hjn
      have HNB : Hid (nameB s = true) := Lib.hid (by rw [← hs]; exact HNM.out.2.2 j hjn)
      have hj0 : (0 : Int) ≤ j := by omega
      have hj1 : (j : Int) < nn := by omega
      clear hcc hs u0 u1 HNM
      go_wp2_with ((refine wpList_store_has ?_ 43 (.tmp 6) (.tmp 28) ?_ (G + 1) ?_ #[.int .i64 3, .string s, .slice none 0 0, .int .i64 0, .int .i64 0, .slice none 0 0] ?_ _ _ HR.out HXI.out ?_ ?_ ?_; rfl; rfl; rfl; rfl; rfl; rfl; intro w99 hh9 hl9))
      refine bodyPost_ret (results_cell_row rfl _ _ (G + 1) _ _ _ _ ?_ hh9 Tryz.underlying43 rfl HXI.out) rfl ?_
      · rfl
      · exact leaf_out (o := 3) (nw := 0) (ws := fun _ => s) (.inr (.inr (.inl rfl))) ⟨HNB.out, rfl, rfl, rfl⟩ (Nat.le_refl _) (by omega) CellsS.zero (atom_keep HK.out hl9 hGw) (atom_deck HD.out hl9 (by omega))
    | false =>
      clear HNM HT
      obtain ⟨hn6, Q, hcs, hat⟩ := HSC.out
      obtain ⟨bb, o, hAs, hbb, hcc⟩ := hcs (by omega)
      subst hAs
      have HAT : Hid (∀ j, j < n → (CellsS (off b wc) wc (Q j).1 (ats j).nw (fun i => .string ((ats j).ws i)) ∧ (ats j).nw ≤ (Q j).2) ∧ (ats j).ok) := Lib.hid hat
      have HRJ : Hid (∀ W, Keeps b wc W → ∀ j, j < n → W.rangeAt bb (o + j * 5) ((ats j).cells (Q j)).toList) := Lib.hid fun W hk j hj i v hi => by
        have h5 : i < 5 := by
          rcases Nat.lt_or_ge i 5 with h | h
          · exact h
          · rw [List.getElem?_eq_none (by simpa [Att.cells] using h)] at hi; cases hi
        rw [Att.cells_get _ _ _ h5] at hi
        injection hi with hi
        rw [off_cell hk bb _ hbb, ← hi, Nat.add_assoc, hcc (j * 5 + i) (by omega)]
        simp only
        rw [(at_div (by omega) h5).1, (at_div (by omega) h5).2]
      have HSS : Hid (∀ W, Keeps b wc W → W.cell? ⟨G, 0, none⟩ = some (.slice (some ⟨bb, o, none⟩) n c) ∧ (∀ j, j < n → ∃ cs, AtPtr W (.pointer (some ⟨bb, o + j * 5, none⟩)) cs) ∧ (∀ j, j < n → atCells W (.pointer (some ⟨bb, o + j * 5, none⟩)) = #[.string (ats j).name, .int .i64 (ats j).kind, .slice (Q j).1 (ats j).nw (Q j).2, .int .i64 (ats j).lo, .int .i64 (ats j).hi])) := Lib.hid fun W hk =>
        have hp : ∀ j, j < n → AtPtr W (.pointer (some ⟨bb, o + j * 5, none⟩)) ((ats j).cells (Q j)) := fun j hj => ⟨bb, _, rfl, HRJ.out W hk j hj, rfl⟩
        ⟨by rw [(HE.out.keeps hk (by omega)).cell]; rfl, fun j hj => ⟨_, hp j hj⟩, fun j hj => (hp j hj).cells⟩
      have HKC : Hid (Keeps b wc wc) := Lib.hid (Keeps.refl b wc)
      have HDC := HD
      have hGc : G + 1 < wc.heap.size := HR.out.lt
      clear hcs hat hcc hbb HRJ
      go_upto_region 3 with (fail)
      go_cut [7] (fun v wx => ∃ (j H : Nat), j < n ∧ G + 1 < H ∧ v = .pointer (some ⟨H, 0, none⟩) ∧ Hid (Keeps b wc wx) ∧ Hid (IsDeck wx b) ∧ Hid (Has wx H #[.string (ats j).name, .int .i64 (ats j).kind, .slice (Q j).1 (ats j).nw (Q j).2, .int .i64 (ats j).lo, .int .i64 (ats j).hi] 80))
      case first =>
        go_wp2_with fail
        go_region_held3 (fun W => W.cell? ⟨G, 0, none⟩ = some (.slice (some ⟨bb, o, none⟩) n c) ∧ (∀ j, j < n → ∃ cs, AtPtr W (.pointer (some ⟨bb, o + j * 5, none⟩)) cs) ∧ (∀ j, j < n → atCells W (.pointer (some ⟨bb, o + j * 5, none⟩)) = #[.string (ats j).name, .int .i64 (ats j).kind, .slice (Q j).1 (ats j).nw (Q j).2, .int .i64 (ats j).lo, .int .i64 (ats j).hi])) (exact HSS.out _ (by (repeat' (first | (with_reducible exact HKC.out) | (with_reducible exact Keeps.refl _ _) | (with_reducible refine Keeps.drew ?_) | (with_reducible refine Keeps.drewN ?_ _) | (with_reducible refine Keeps.alloc ?_ _) | (with_reducible refine Keeps.far ?_ ?_ _))) <;> (simp <;> omega))) (first
          | (go_at_call 19; refine (next_any b n _ (by (repeat' (first | (with_reducible exact HDC.out) | (with_reducible refine IsDeck.drew ?_) | (with_reducible refine IsDeck.drewN ?_ _) | (with_reducible refine IsDeck.alloc ?_ _) | (with_reducible refine IsDeck.far ?_ ?_ _))) <;> (first | omega | (simp <;> omega))) (by omega) (by omega)).mono ?_; rintro e w3 ⟨u, rfl, u0, u1, hk2, hd2⟩; have HBL : Hid (∀ cs t, Has _ wc.heap.size cs t → Has w3 wc.heap.size cs t) := Lib.hid fun cs t h => Has.keeps h hk2 (by omega); obtain ⟨hkc, hkf⟩ := keep_new (G := wc.heap.size) hk2 (by omega); replace HKC : Hid (Keeps b wc w3) := Lib.hid (Keeps.trans (by (repeat' (first | (with_reducible exact HKC.out) | (with_reducible exact Keeps.refl _ _) | (with_reducible refine Keeps.drew ?_) | (with_reducible refine Keeps.drewN ?_ _) | (with_reducible refine Keeps.alloc ?_ _) | (with_reducible refine Keeps.far ?_ ?_ _))) <;> (simp <;> omega)) hk2); replace HDC := Lib.hid hd2; obtain ⟨j, hj⟩ : ∃ j : Nat, u = j := ⟨u.toNat, by omega⟩; subst hj; have hj0 : (0 : Int) ≤ j := u0; have hj1 : (j : Int) < n := (by omega); have hjn : j < n := (by omega); clear hk2 hd2 u0 u1))
        all_goals
          clear hkc hkf
          go_wp2_with fail
          go_meet
          first
            | exact ⟨j, w3.heap.size, hjn, by have := HKC.out.size; omega, rfl, Lib.hid (HKC.out.alloc _), Lib.hid (HDC.out.alloc _), Lib.hid (Has.new w3 _ _)⟩
            | exact ⟨j, wc.heap.size, hjn, hGc, rfl, Lib.hid (by (repeat' (first | (with_reducible exact HKC.out) | (with_reducible exact Keeps.refl _ _) | (with_reducible refine Keeps.drew ?_) | (with_reducible refine Keeps.drewN ?_ _) | (with_reducible refine Keeps.alloc ?_ _) | (with_reducible refine Keeps.far ?_ ?_ _))) <;> (simp <;> omega)), Lib.hid (by (repeat' (first | (with_reducible exact HDC.out) | (with_reducible refine IsDeck.drew ?_) | (with_reducible refine IsDeck.drewN ?_ _) | (with_reducible refine IsDeck.alloc ?_ _) | (with_reducible refine IsDeck.far ?_ ?_ _))) <;> (first | omega | (simp <;> omega))), Lib.hid ((((((HBL.out _ _ (Has.new wc.drew #[.string { data := #[] }, .int .i64 0, .slice none 0 0, .int .i64 0, .int .i64 0] 80)).put 0 _).put 1 _).put 2 _).put 3 _).put 4 _)⟩
      case rest =>
        obtain ⟨j, H, hjn, hGH, rfl, HKC, HDC, HH⟩ := hcut
        clear HSS
        have HATJ := Lib.hid (HAT.out j hjn)
        obtain ⟨y, hy⟩ : ∃ y, ats j = y := ⟨_, rfl⟩
        obtain ⟨⟨qA, qc⟩, hq⟩ : ∃ q, Q j = q := ⟨_, rfl⟩
        rw [hy, hq] at HH HATJ
        obtain ⟨nm, kd, nw, ws, lo, hi⟩ := y
        simp only at HH HATJ
        have HR2 := Lib.hid (HR.out.keeps HKC.out (by omega))
        replace HK := Lib.hid (HK.out.trans HKC.out)
        have HW2 : Hid (CellsS (off b wc) wc qA nw (fun i => .string (ws i))) := Lib.hid (HATJ.out.1.1.keep (off_cell HKC.out) (off_up HKC.out))
        have HOKA := Lib.hid HATJ.out.2
        have hnq : nw ≤ qc := HATJ.out.1.2
        have hn12 : nw ≤ 12 := HATJ.out.2.2.1.1
        have HNB : Hid (nameB nm = true) := Lib.hid HATJ.out.2.1
        have HWD : Hid (namesP nw ws ∧ distP nw ws) := Lib.hid HATJ.out.2.2.1.2
        have hkind := HATJ.out.2.2.2
        simp only at hn12 hkind
        clear hy hq HAT HE HR HKC HD HSC HATJ HOKA
        obtain ⟨y0, y1, y2⟩ := HH.out.rules
        rcases hkind with ⟨hk1, hnw1⟩ | ⟨hk2, hlo, hlh, hhi⟩ | hk3
        · have q3 : (kd == 3) = false := by rw [hk1]; rfl
          have q1 : (kd == 1) = true := by rw [hk1]; rfl
          clear hk1
          have HCW := HW2
          go_upto_region 9 with ((refine wpList_store_has ?_ 43 (.tmp 8) (.tmp 49) ?_ wc.heap.size ?_ #[.int .i64 4, .string nm, .slice none 0 0, .int .i64 0, .int .i64 0, .slice none 0 0] ?_ _ _ (Has.new wc _ _) HXI.out ?_ ?_ ?_; rfl; rfl; rfl; rfl; rfl; rfl; intro w5 hh5 hl5))
          have hb5 : Below wc.heap.size wc w5 := ((Below.refl _ _).alloc (Nat.le_refl _) _).trans (hl5.below (fun k hk => by omega) (by simp))
          have hlt : b < wc.heap.size := HDC.out.lt
          have HK5 := Lib.hid (HK.out.trans (Keeps.of_below hb5 b))
          have HD5 := Lib.hid (HDC.out.below hb5 hlt)
          have HH5 := Lib.hid (HH.out.below hb5 y2)
          have HR5 := Lib.hid (HR2.out.below hb5 HR2.out.lt)
          have HW5 : Hid (CellsS (fun i => i ≠ b ∧ i < wc.heap.size) w5 qA nw (fun i => .string (ws i))) := Lib.hid (HCW.out.keep (off_cell (Keeps.of_below hb5 b)) (fun i hi => hi))
          have HM5 := Lib.hid hh5
          have hgH := y2
          obtain ⟨M, hM⟩ : ∃ M, wc.heap.size = M := ⟨_, rfl⟩
          have hMl : M < w5.heap.size := by rw [← hM]; exact hh5.lt
          rw [hM] at HM5 hgH HW5 ⊢
          have hbM : b < M := by omega
          have hGM : G + 1 < M := by omega
          clear hb5 hh5 hl5 hM HK HDC HH HR2 HW2 HCW y0 y1 y2 hGc hlt
          obtain ⟨y0, y1, y2⟩ := HH5.out.rules
          have hnw0 : (0 : Int) < nw := by omega
          go_wp2_with fail
          refine (next_any b nw _ HD5.out (by omega) (by omega)).mono ?_
          rintro e w6 ⟨f0, rfl, f00, f01, hk2, hd2⟩
          replace HK5 := Lib.hid (HK5.out.trans hk2)
          replace HD5 := Lib.hid hd2
          replace HH5 := Lib.hid (HH5.out.keeps hk2 (by omega))
          replace HR5 := Lib.hid (HR5.out.keeps hk2 (by omega))
          replace HM5 := Lib.hid (HM5.out.keeps hk2 (by omega))
          replace HW5 : Hid (CellsS (fun i => i ≠ b ∧ i < M) w6 qA nw (fun i => .string (ws i))) := Lib.hid (HW5.out.keep (fun i o hi => off_cell hk2 i o ⟨hi.1, by omega⟩) (fun i hi => hi))
          have hM6 : M < w6.heap.size := HM5.out.lt
          clear hk2 hd2 y0 y1 y2 hMl
          obtain ⟨y0, y1, y2⟩ := HH5.out.rules
          go_wp2_with fail
          refine (range_any b 1 nw _ HD5.out (by omega) (by omega) (by omega) (by omega)).mono ?_
          rintro e w7 ⟨kz, rfl, k00, k01, hk2, hd2⟩
          replace HK5 := Lib.hid (HK5.out.trans hk2)
          replace HD5 := Lib.hid hd2
          replace HH5 := Lib.hid (HH5.out.keeps hk2 (by omega))
          replace HR5 := Lib.hid (HR5.out.keeps hk2 (by omega))
          replace HM5 := Lib.hid (HM5.out.keeps hk2 (by omega))
          replace HW5 : Hid (CellsS (fun i => i ≠ b ∧ i < M) w7 qA nw (fun i => .string (ws i))) := Lib.hid (HW5.out.keep (fun i o hi => off_cell hk2 i o ⟨hi.1, by omega⟩) (fun i hi => hi))
          clear hk2 hd2 y0 y1 y2 hM6
          obtain ⟨F0, hF0⟩ : ∃ F : Nat, f0 = F := ⟨f0.toNat, by omega⟩
          obtain ⟨K0, hK0⟩ : ∃ K : Nat, kz = K := ⟨kz.toNat, by omega⟩
          subst hF0 hK0
          have hF1 : F0 < nw := by omega
          have hK1 : 1 ≤ K0 ∧ K0 ≤ nw := by omega
          clear f00 f01 k00 k01
          have HOW0 : Hid (w7.ownsRow (M + 1) 9 1 (.slice none 0 0) 0 (rowL 0 fun i => .string (ws ((F0 + i) % nw)))) := Lib.hid ⟨rfl, .inl ⟨rfl, rfl⟩⟩
          obtain ⟨i0, hi0, hz0, hz1, hz2⟩ := info_parts str_all
          have HI := Lib.hid hi0
          have HZ0 := Lib.hid hz0
          have HZ1 := Lib.hid hz1
          have HZ2 := Lib.hid hz2
          have HQ0 : Hid (F0 = F0 + 0) := Lib.hid rfl
          clear hi0 hz0 hz1 hz2
          go_wp2_with fail
          go_loopw [9, 10] (fun fr kx wr => ∃ (m k q : Nat) (Av : Option Addr) (cv : Nat), m + k = K0 ∧ fr = .int .i64 q ∧ kx = .int .i64 k ∧ Hid (q = F0 + m) ∧ Hid (wr.ownsRow (M + 1) 9 1 (.slice Av m cv) m (rowL m fun i => .string (ws ((F0 + i) % nw)))) ∧ Hid (Has wr M #[.int .i64 4, .string nm, .slice Av m cv, .int .i64 0, .int .i64 0, .slice none 0 0] 43) ∧ Hid (Has wr H #[.string nm, .int .i64 kd, .slice qA nw qc, .int .i64 lo, .int .i64 hi] 80) ∧ Hid (Has wr (G + 1) #[.int .i64 0, .string { data := #[] }, .slice none 0 0, .int .i64 0, .int .i64 0, .slice none 0 0] 43) ∧ Hid (Keeps b w wr) ∧ Hid (IsDeck wr b) ∧ Hid (CellsS (fun i => i ≠ b ∧ i < M) wr qA nw (fun i => .string (ws i)))) (fun _ kx _ => (intOf kx).toNat)
          case atStart => exact ⟨0, K0, F0, none, 0, by omega, rfl, rfl, HQ0, HOW0, HM5, HH5, HR5, HK5, HD5, HW5⟩
          case round =>
            clear HOW0 HM5 HH5 HR5 HK5 HD5 HW5 HQ0
            obtain ⟨m, k, q, Av, cv, hmk, rfl, rfl, HQ, HO, HM, HH, HR, HK, HD, HW⟩ := hrel
            have HMK := Lib.hid hmk
            have hm12 : m ≤ 12 := by omega
            have hsM : M < wr.heap.size := HM.out.lt
            by_cases hk0 : 0 < k
            · obtain ⟨qb, qo, hqA, hqb, hqc⟩ := HW.out (by omega)
              subst hqA
              obtain ⟨ix, hix⟩ : ∃ ix, q % nw = ix := ⟨_, rfl⟩
              have hixl : ix < nw := by rw [← hix]; exact Nat.mod_lt _ (by omega)
              have hrem : Int.tmod (q : Int) (nw : Int) = (ix : Int) := by rw [← hix]; rfl
              obtain ⟨s, hs⟩ : ∃ s, ws ix = s := ⟨_, rfl⟩
              have hc0 : wr.cell? ⟨qb, qo + ix, none⟩ = some (.string s) := by rw [← hs]; exact hqc ix hixl
              have HSN : Hid ((rowL m fun i => Value.string (ws ((F0 + i) % nw))) ++ [.string s] = rowL (m + 1) fun i => .string (ws ((F0 + i) % nw))) := Lib.hid (by
                rw [← rowL_snoc]
                show _ = _ ++ [Value.string (ws ((F0 + m) % nw))]
                rw [← HQ.out, hix, hs])
              have hi0 : (0 : Int) ≤ ix := by omega
              have hi1 : (ix : Int) < nw := by omega
              have hnz : ¬ (nw : Int) = 0 := by omega
              have hnz3 : ¬ nw = 0 := by omega
              have hnz2 : ((nw : Int) == 0) = false := by rw [beq_eq_false_iff_ne]; exact hnz
              have hk1 : (0 : Int) < k := by omega
              have hwq : IntKind.i64.wrap ((q : Int) + 1) = ((q + 1 : Nat) : Int) := by
                rw [IntKind.wrap_i64]
                have := HQ.out
                omega
              have hwk : IntKind.i64.wrap ((k : Int) - 1) = ((k - 1 : Nat) : Int) := by rw [IntKind.wrap_i64]; omega
              replace HO : Hid (wr.drew.ownsRow (M + 1) 9 1 (.slice Av m cv) m (rowL m fun i => .string (ws ((F0 + i) % nw)))) := Lib.hid HO.out.drew
              obtain ⟨y0, y1, y2⟩ := HH.out.rules
              obtain ⟨z0, z1, z2⟩ := HM.out.rules
              clear hs hqc hmk hqb hix
              go_wp2_with fail
              go_region_law (first
                | (refine step_append_lies _ (by rfl) _ _ _ (by rfl) (M + 1) 9 i0 _ 1 16 Tryz.underlying40 HI.out HZ0.out HZ1.out HZ2.out rfl (by omega) (.slice Av m cv) m (rowL m fun i => .string (ws ((F0 + i) % nw))) (by rfl) (HO.out.alloc _) ⟨wr.heap.size, 0, none⟩ 1 1 [.string s] (by rfl) (by rfl) (World.news_of_block (cs := #[.string s]) (t := 9) (fr := (0, 0)) (heap_alloc_new wr.drew _)) (by simp [Value.oneCell']) (by omega) (by unfold maxLen; omega) (by omega) (by simp; omega) (wr.heap.size + 1) (by simp) ?_; intro gg cap w4 hown hgrow hat hlt4; (have hgz := fun i => (World.cell?_of_block (w := wr.drew.alloc (.cells #[.string s] 9)) (a := ⟨M, i, none⟩) (hgrow.block M (by simp; omega) (fun e => by have := (own_lt HO.out e.symm).2; omega)))); (have hgf := fun i => (World.frozen?_of_block (w := wr.drew.alloc (.cells #[.string s] 9)) (a := ⟨M, i, none⟩) (hgrow.block M (by simp; omega) (fun e => by have := (own_lt HO.out e.symm).2; omega))))))
              all_goals
                have hs4 := hgrow.size
                have hbm : Below M wr (w4.setCell ⟨M, 2, none⟩ (.slice (some ⟨gg, 0, none⟩) (m + 1) cap)) := Below.setCell (Below.grown (Below.alloc (below_drew (Below.refl M wr)) (Nat.le_of_lt hsM) (.cells #[.string s] 9)) hgrow (by simp; omega) (fun q hq => by have := (own_lt HO.out hq).2; omega)) (Nat.le_refl M) _
                rw [HSN.out] at hown
                have HO5 := Lib.hid (own_keeps (b := M) hown ((Keeps.refl M w4).put 2 (.slice (some ⟨gg, 0, none⟩) (m + 1) cap)) (Nat.lt_succ_self M))
                have HM5 : Hid (Has (w4.setCell ⟨M, 2, none⟩ (.slice (some ⟨gg, 0, none⟩) (m + 1) cap)) M #[.int .i64 4, .string nm, .slice (some ⟨gg, 0, none⟩) (m + 1) cap, .int .i64 0, .int .i64 0, .slice none 0 0] 43) := Lib.hid (Has.put (w := w4) (cs := #[.int .i64 4, .string nm, .slice Av m cv, .int .i64 0, .int .i64 0, .slice none 0 0]) ((hgrow.block M (by simp; omega) (fun e => by have := (own_lt HO.out e.symm).2; omega)).trans (HM.out.drew.alloc _)) 2 _)
                have HH5 := Lib.hid (HH.out.below hbm (by omega))
                have HR5 := Lib.hid (HR.out.below hbm hGM)
                have HK5 := Lib.hid (HK.out.then hbm (by omega))
                have HD5 := Lib.hid (HD.out.below hbm hbM)
                have HW5 : Hid (CellsS (fun i => i ≠ b ∧ i < M) (w4.setCell ⟨M, 2, none⟩ (.slice (some ⟨gg, 0, none⟩) (m + 1) cap)) (some ⟨qb, qo, none⟩) nw (fun i => .string (ws i))) := Lib.hid (HW.out.keep (fun i o hi => hbm.cell (p := ⟨i, o, none⟩) hi.2) (fun i hi => hi))
                have HQ5 : Hid (q + 1 = F0 + (m + 1)) := Lib.hid (by have := HQ.out; omega)
                clear hown hgrow hat hgz hgf hbm HO HM HH HR HK HD HW y0 y1 y2 z0 z1 z2 hc0 hrem hs4
                go_wp2_with fail
                go_roundw
                case rel => exact ⟨m + 1, k - 1, q + 1, some ⟨gg, 0, none⟩, cap, by have := HMK.out; omega, by rfl, by rfl, HQ5, HO5, HM5, HH5, HR5, HK5, HD5, HW5⟩
                case measure => simp [intOf]; omega
            · have hk00 : k = 0 := by omega
              subst hk00
              obtain ⟨y0, y1, y2⟩ := HH.out.rules
              go_wp2_with (first
                | (refine wpList_load_has ?_ 43 (.tmp 8) ?_ M ?_ _ _ _ HM.out Tryz.underlying43 ?_ HXI.out ?_; rfl; rfl; rfl; rfl)
                | (refine wpList_store_has ?_ 43 (.tmp 6) (.tmp 80) ?_ (G + 1) ?_ #[.int .i64 4, .string nm, .slice Av m cv, .int .i64 0, .int .i64 0, .slice none 0 0] ?_ _ _ HR.out HXI.out ?_ ?_ ?_; rfl; rfl; rfl; rfl; rfl; rfl; intro w99 hh9 hl9))
              refine bodyPost_ret (results_cell_row rfl _ _ (G + 1) _ _ _ _ ?_ hh9 Tryz.underlying43 rfl HXI.out) rfl ?_
              · rfl
              · have hm0 : 1 ≤ m ∧ m ≤ nw := by omega
                obtain ⟨u0, u1⟩ := rot_out (w := w) HO.out hl9 (by omega) (by omega) hm0.1
                exact leaf_out (o := 4) (nw := m) (ws := fun i => ws ((F0 + i) % nw)) (.inr (.inr (.inr (.inl rfl)))) ⟨HNB.out, rot_words HWD.out.1 HWD.out.2 hm0 (by omega), rfl, rfl⟩ u0 (by omega) u1 (atom_keep HK.out hl9 hGw) (atom_deck HD.out hl9 (by omega))
        · have q3 : (kd == 3) = false := by rw [hk2]; rfl
          have q1 : (kd == 1) = false := by rw [hk2]; rfl
          clear hk2
          have HB1 : Hid (Keeps b wc wc) := Lib.hid (Keeps.refl _ _)
          clear HW2 HWD
          have HQS : Hid (∀ W, Has W H #[.string nm, .int .i64 kd, .slice qA nw qc, .int .i64 lo, .int .i64 hi] 80 → W.cell? ⟨H, 3, none⟩ = some (.int .i64 lo) ∧ W.cell? ⟨H, 4, none⟩ = some (.int .i64 hi)) := Lib.hid fun W h => ⟨by rw [h.cell]; rfl, by rw [h.cell]; rfl⟩
          have hw1 : IntKind.i64.wrap (hi - lo) = hi - lo := by rw [IntKind.wrap_i64]; omega
          have hw2 : IntKind.i64.wrap (hi - lo + 1) = hi - lo + 1 := by rw [IntKind.wrap_i64]; omega
          have HD9 := HDC
          have HH1 := HH
          go_upto_region 16 with (fail)
          clear y0 y1 y2
          go_region_held3 (fun W => W.cell? ⟨H, 3, none⟩ = some (.int .i64 lo) ∧ W.cell? ⟨H, 4, none⟩ = some (.int .i64 hi)) (first | exact HQS.out _ HH.out | exact HQS.out _ HH.out.drew) (first
            | (go_at_call 19; refine (next_any b _ _ (by first | exact HD9.out.drew | exact HD9.out) (by omega) (by omega)).mono ?_; rintro e w3 ⟨u, rfl, u0, u1, hk2, hd2⟩; replace HB1 : Hid (Keeps b wc w3) := Lib.hid (by first | exact (HB1.out.drew).trans hk2 | exact HB1.out.trans hk2); replace HD9 := Lib.hid hd2; replace HH := Lib.hid (HH.out.keeps HB1.out (by omega)); have hw3 : IntKind.i64.wrap (lo + u) = lo + u := (by rw [IntKind.wrap_i64]; omega); clear hk2 hd2))
          have hr1 : lo ≤ lo + u ∧ lo + u ≤ hi := by omega
          obtain ⟨l1, hl1⟩ : ∃ z, lo + u = z := ⟨_, rfl⟩
          rw [hl1] at hr1 ⊢
          clear hl1 u0 u1 hw3
          obtain ⟨y0, y1, y2⟩ := HH.out.rules
          go_wp2_with fail
          refine (next_any b 2 _ HD9.out (by omega) (by omega)).mono ?_
          rintro e w4 ⟨v, rfl, v0, v1, hk2, hd2⟩
          replace HB1 := Lib.hid (HB1.out.trans hk2)
          replace HD9 := Lib.hid hd2
          replace HH := Lib.hid (HH.out.keeps hk2 (by omega))
          clear hk2 hd2 y0 y1 y2
          have hv : v = 0 ∨ v = 1 := by omega
          clear v0 v1
          have HGO : Hid (∀ (low : Int) (W : World), lo ≤ low → low ≤ hi → Keeps b wc W → IsDeck W b → True) := Lib.hid fun _ _ _ _ _ _ => trivial
          clear HGO
          rcases hv with rfl | rfl
          · go_upto_region 18 with (fail)
            go_region_held3 (fun W => W.cell? ⟨H, 3, none⟩ = some (.int .i64 lo) ∧ W.cell? ⟨H, 4, none⟩ = some (.int .i64 hi)) (first | exact HQS.out _ HH.out | exact HQS.out _ HH.out.drew) (first
              | (go_at_call 19; refine (next_any b _ _ (by first | exact HD9.out.drew | exact HD9.out) (by omega) (by omega)).mono ?_; rintro e w5 ⟨x, rfl, x0, x1, hk2, hd2⟩; replace HB1 : Hid (Keeps b wc w5) := Lib.hid (by first | exact (HB1.out.drew).trans hk2 | exact HB1.out.trans hk2); replace HD9 := Lib.hid hd2; replace HH := Lib.hid (HH1.out.keeps HB1.out (by omega)); have hw4 : IntKind.i64.wrap (x - 4) = x - 4 := (by rw [IntKind.wrap_i64]; omega); clear hk2 hd2))
            have hr2 : lo ≤ min (max (x - 4) lo) hi ∧ min (max (x - 4) lo) hi ≤ hi := by omega
            obtain ⟨l2, hl2⟩ : ∃ z, min (max (x - 4) lo) hi = z := ⟨_, rfl⟩
            rw [hl2] at hr2 ⊢
            clear hl2
            have hw5 : IntKind.i64.wrap (hi - l2) = hi - l2 := by rw [IntKind.wrap_i64]; omega
            have hw6 : IntKind.i64.wrap (hi - l2 + 1) = hi - l2 + 1 := by rw [IntKind.wrap_i64]; omega
            obtain ⟨y0, y1, y2⟩ := HH.out.rules
            go_wp2_with fail
            refine (next_any b _ _ HD9.out (by omega) (by omega)).mono ?_
            rintro e w6 ⟨z, rfl, z0, z1, hk2, hd2⟩
            replace HB1 := Lib.hid (HB1.out.trans hk2)
            replace HD9 := Lib.hid hd2
            replace HH := Lib.hid (HH.out.keeps hk2 (by omega))
            have hw7 : IntKind.i64.wrap (l2 + z) = l2 + z := by rw [IntKind.wrap_i64]; omega
            clear hk2 hd2 y0 y1 y2
            go_wp2_with fail
            refine (next_any b 2 _ HD9.out (by omega) (by omega)).mono ?_
            rintro e w7 ⟨t, rfl, t0, t1, hk2, hd2⟩
            replace HB1 := Lib.hid (HB1.out.trans hk2)
            replace HD9 := Lib.hid hd2
            replace HH := Lib.hid (HH.out.keeps hk2 (by omega))
            clear hk2 hd2
            have ht : t = 0 ∨ t = 1 := by omega
            clear t0 t1
            rcases ht with rfl | rfl
            · go_upto_region 21 with (fail)
              go_region_held3 (fun W => W.cell? ⟨H, 3, none⟩ = some (.int .i64 lo) ∧ W.cell? ⟨H, 4, none⟩ = some (.int .i64 hi)) (first | exact HQS.out _ HH.out | exact HQS.out _ HH.out.drew) (first
                | (go_at_call 19; refine (next_any b _ _ (by first | exact HD9.out.drew | exact HD9.out) (by omega) (by omega)).mono ?_; rintro e w8 ⟨q, rfl, q0, q1, hk2, hd2⟩; replace HB1 : Hid (Keeps b wc w8) := Lib.hid (by first | exact (HB1.out.drew).trans hk2 | exact HB1.out.trans hk2); replace HD9 := Lib.hid hd2; replace HH := Lib.hid (HH1.out.keeps HB1.out (by omega)); have hw8 : IntKind.i64.wrap (l2 + q) = l2 + q := (by rw [IntKind.wrap_i64]; omega); clear hk2 hd2))
              have hr3 : l2 ≤ min (l2 + q) hi ∧ min (l2 + q) hi ≤ hi := by omega
              obtain ⟨h1, hh1⟩ : ∃ zz, min (l2 + q) hi = zz := ⟨_, rfl⟩
              rw [hh1] at hr3 ⊢
              clear hh1
              have HR9 := Lib.hid (HR2.out.keeps HB1.out (by omega))
              have HK9 := Lib.hid (HK.out.trans HB1.out)
              obtain ⟨y0, y1, y2⟩ := HH.out.rules
              go_wp2_with ((refine wpList_store_has ?_ 43 (.tmp 6) (.tmp 127) ?_ (G + 1) ?_ #[.int .i64 5, .string nm, .slice none 0 0, .int .i64 l2, .int .i64 h1, .slice none 0 0] ?_ _ _ HR9.out HXI.out ?_ ?_ ?_; rfl; rfl; rfl; rfl; rfl; rfl; intro w99 hh9 hl9))
              refine bodyPost_ret (results_cell_row rfl _ _ (G + 1) _ _ _ _ ?_ hh9 Tryz.underlying43 rfl HXI.out) rfl ?_
              · rfl
              · exact leaf_out (o := 5) (nw := 0) (ws := fun _ => nm) (.inr (.inr (.inr (.inr rfl)))) ⟨HNB.out, rfl, ⟨by omega, by omega⟩, ⟨by omega, by omega⟩, hr3.1⟩ (Nat.le_refl _) (by omega) CellsS.zero (atom_keep HK9.out hl9 hGw) (atom_deck HD9.out hl9 (by omega))
            · have hr3 : l2 ≤ l2 + z ∧ l2 + z ≤ hi := by omega
              obtain ⟨h1, hh1⟩ : ∃ zz, l2 + z = zz := ⟨_, rfl⟩
              rw [hh1] at hr3 ⊢
              clear hh1
              have HR9 := Lib.hid (HR2.out.keeps HB1.out (by omega))
              have HK9 := Lib.hid (HK.out.trans HB1.out)
              obtain ⟨y0, y1, y2⟩ := HH.out.rules
              go_wp2_with ((refine wpList_store_has ?_ 43 (.tmp 6) (.tmp 127) ?_ (G + 1) ?_ #[.int .i64 5, .string nm, .slice none 0 0, .int .i64 l2, .int .i64 h1, .slice none 0 0] ?_ _ _ HR9.out HXI.out ?_ ?_ ?_; rfl; rfl; rfl; rfl; rfl; rfl; intro w99 hh9 hl9))
              refine bodyPost_ret (results_cell_row rfl _ _ (G + 1) _ _ _ _ ?_ hh9 Tryz.underlying43 rfl HXI.out) rfl ?_
              · rfl
              · exact leaf_out (o := 5) (nw := 0) (ws := fun _ => nm) (.inr (.inr (.inr (.inr rfl)))) ⟨HNB.out, rfl, ⟨by omega, by omega⟩, ⟨by omega, by omega⟩, hr3.1⟩ (Nat.le_refl _) (by omega) CellsS.zero (atom_keep HK9.out hl9 hGw) (atom_deck HD9.out hl9 (by omega))
          · have hr2 : lo ≤ l1 ∧ l1 ≤ hi := by omega
            obtain ⟨l2, hl2⟩ : ∃ z, l1 = z := ⟨_, rfl⟩
            rw [hl2] at hr2 ⊢
            clear hl2
            have hw5 : IntKind.i64.wrap (hi - l2) = hi - l2 := by rw [IntKind.wrap_i64]; omega
            have hw6 : IntKind.i64.wrap (hi - l2 + 1) = hi - l2 + 1 := by rw [IntKind.wrap_i64]; omega
            obtain ⟨y0, y1, y2⟩ := HH.out.rules
            go_wp2_with fail
            refine (next_any b _ _ HD9.out (by omega) (by omega)).mono ?_
            rintro e w6 ⟨z, rfl, z0, z1, hk2, hd2⟩
            replace HB1 := Lib.hid (HB1.out.trans hk2)
            replace HD9 := Lib.hid hd2
            replace HH := Lib.hid (HH.out.keeps hk2 (by omega))
            have hw7 : IntKind.i64.wrap (l2 + z) = l2 + z := by rw [IntKind.wrap_i64]; omega
            clear hk2 hd2 y0 y1 y2
            go_wp2_with fail
            refine (next_any b 2 _ HD9.out (by omega) (by omega)).mono ?_
            rintro e w7 ⟨t, rfl, t0, t1, hk2, hd2⟩
            replace HB1 := Lib.hid (HB1.out.trans hk2)
            replace HD9 := Lib.hid hd2
            replace HH := Lib.hid (HH.out.keeps hk2 (by omega))
            clear hk2 hd2
            have ht : t = 0 ∨ t = 1 := by omega
            clear t0 t1
            rcases ht with rfl | rfl
            · go_upto_region 21 with (fail)
              go_region_held3 (fun W => W.cell? ⟨H, 3, none⟩ = some (.int .i64 lo) ∧ W.cell? ⟨H, 4, none⟩ = some (.int .i64 hi)) (first | exact HQS.out _ HH.out | exact HQS.out _ HH.out.drew) (first
                | (go_at_call 19; refine (next_any b _ _ (by first | exact HD9.out.drew | exact HD9.out) (by omega) (by omega)).mono ?_; rintro e w8 ⟨q, rfl, q0, q1, hk2, hd2⟩; replace HB1 : Hid (Keeps b wc w8) := Lib.hid (by first | exact (HB1.out.drew).trans hk2 | exact HB1.out.trans hk2); replace HD9 := Lib.hid hd2; replace HH := Lib.hid (HH1.out.keeps HB1.out (by omega)); have hw8 : IntKind.i64.wrap (l2 + q) = l2 + q := (by rw [IntKind.wrap_i64]; omega); clear hk2 hd2))
              have hr3 : l2 ≤ min (l2 + q) hi ∧ min (l2 + q) hi ≤ hi := by omega
              obtain ⟨h1, hh1⟩ : ∃ zz, min (l2 + q) hi = zz := ⟨_, rfl⟩
              rw [hh1] at hr3 ⊢
              clear hh1
              have HR9 := Lib.hid (HR2.out.keeps HB1.out (by omega))
              have HK9 := Lib.hid (HK.out.trans HB1.out)
              obtain ⟨y0, y1, y2⟩ := HH.out.rules
              go_wp2_with ((refine wpList_store_has ?_ 43 (.tmp 6) (.tmp 127) ?_ (G + 1) ?_ #[.int .i64 5, .string nm, .slice none 0 0, .int .i64 l2, .int .i64 h1, .slice none 0 0] ?_ _ _ HR9.out HXI.out ?_ ?_ ?_; rfl; rfl; rfl; rfl; rfl; rfl; intro w99 hh9 hl9))
              refine bodyPost_ret (results_cell_row rfl _ _ (G + 1) _ _ _ _ ?_ hh9 Tryz.underlying43 rfl HXI.out) rfl ?_
              · rfl
              · exact leaf_out (o := 5) (nw := 0) (ws := fun _ => nm) (.inr (.inr (.inr (.inr rfl)))) ⟨HNB.out, rfl, ⟨by omega, by omega⟩, ⟨by omega, by omega⟩, hr3.1⟩ (Nat.le_refl _) (by omega) CellsS.zero (atom_keep HK9.out hl9 hGw) (atom_deck HD9.out hl9 (by omega))
            · have hr3 : l2 ≤ l2 + z ∧ l2 + z ≤ hi := by omega
              obtain ⟨h1, hh1⟩ : ∃ zz, l2 + z = zz := ⟨_, rfl⟩
              rw [hh1] at hr3 ⊢
              clear hh1
              have HR9 := Lib.hid (HR2.out.keeps HB1.out (by omega))
              have HK9 := Lib.hid (HK.out.trans HB1.out)
              obtain ⟨y0, y1, y2⟩ := HH.out.rules
              go_wp2_with ((refine wpList_store_has ?_ 43 (.tmp 6) (.tmp 127) ?_ (G + 1) ?_ #[.int .i64 5, .string nm, .slice none 0 0, .int .i64 l2, .int .i64 h1, .slice none 0 0] ?_ _ _ HR9.out HXI.out ?_ ?_ ?_; rfl; rfl; rfl; rfl; rfl; rfl; intro w99 hh9 hl9))
              refine bodyPost_ret (results_cell_row rfl _ _ (G + 1) _ _ _ _ ?_ hh9 Tryz.underlying43 rfl HXI.out) rfl ?_
              · rfl
              · exact leaf_out (o := 5) (nw := 0) (ws := fun _ => nm) (.inr (.inr (.inr (.inr rfl)))) ⟨HNB.out, rfl, ⟨by omega, by omega⟩, ⟨by omega, by omega⟩, hr3.1⟩ (Nat.le_refl _) (by omega) CellsS.zero (atom_keep HK9.out hl9 hGw) (atom_deck HD9.out hl9 (by omega))
        · have q3 : (kd == 3) = true := by rw [hk3]; rfl
          clear hk3
          go_wp2_with ((refine wpList_store_has ?_ 43 (.tmp 6) (.tmp 44) ?_ (G + 1) ?_ #[.int .i64 3, .string nm, .slice none 0 0, .int .i64 0, .int .i64 0, .slice none 0 0] ?_ _ _ HR2.out HXI.out ?_ ?_ ?_; rfl; rfl; rfl; rfl; rfl; rfl; intro w99 hh9 hl9))
          refine bodyPost_ret (results_cell_row rfl _ _ (G + 1) _ _ _ _ ?_ hh9 Tryz.underlying43 rfl HXI.out) rfl ?_
          · rfl
          · exact leaf_out (o := 3) (nw := 0) (ws := fun _ => nm) (.inr (.inr (.inl rfl))) ⟨HNB.out, rfl, rfl, rfl⟩ (Nat.le_refl _) (by omega) CellsS.zero (atom_keep HK.out hl9 hGw) (atom_deck HDC.out hl9 (by omega))
end Go.Proofs.YtlbkhhbbkedhkaaGreatDoor
