/- endorse.cloneExpr: the walk. endorse.cloneWriteBacks: the same write-backs, in fresh blocks. -/
import Derived.Test.YtlbkhhbbkedhkaaGreatDoorMa12
namespace Go.Proofs.YtlbkhhbbkedhkaaGreatDoor
open Go.RowKit
set_option linter.unusedVariables false
attribute [local go_sem ↓] exec_load_ex exec_store_ex

/-- while the arguments are cloned: the first k lie in fresh blocks -/
def ArgInv (xs : Nat → Ex) (P : Nat → EA) (n c g base k : Nat) (wr : World) : Prop := ∃ P' : Nat → EA, Own wr base g n c 6 43 (argF xs P') ∧ (∀ i, k ≤ i → P' i = P i) ∧ ∀ i, i < k → ExIn (fun b => g < b ∧ b < wr.heap.size) wr (xs i) (P' i)
theorem ArgInv.below {xs : Nat → Ex} {P : Nat → EA} {n c g base k : Nat} {wr w' : World} (h : ArgInv xs P n c g base k wr) (hb : Below wr.heap.size wr w') : ArgInv xs P n c g base k w' := by
  obtain ⟨P', h1, h2, h3⟩ := h
  exact ⟨P', h1.later hb, h2, fun i hi => ExIn.keep (fun b o hS => hb.cell (p := ⟨b, o, none⟩) hS.2) (fun b hS => ⟨hS.1, by have := hb.size; omega⟩) _ _ (h3 i hi)⟩
theorem ArgInv.put {xs : Nat → Ex} {P : Nat → EA} {n c g base k : Nat} {wr : World} {a : EA} (h : ArgInv xs P n c g base k wr) (hk : k < n) (ha : ExIn (fun b => g < b ∧ b < wr.heap.size) wr (xs k) a) :
    ArgInv xs P n c g base (k + 1) (wr.setCells g (k * 6) ((xs k).cells a).toList) := by
  obtain ⟨P', h1, h2, h3⟩ := h
  refine ⟨_, argF_put h1 hk, fun i hi => by rw [if_neg (by omega)]; exact h2 i (by omega), fun i hi => ?_⟩
  have hkeep : ∀ b o, g < b ∧ b < wr.heap.size → (wr.setCells g (k * 6) ((xs k).cells a).toList).cell? ⟨b, o, none⟩ = wr.cell? ⟨b, o, none⟩ := fun b o hS => World.cell?_setCells_out g _ _ _ _ (fun e => by have e : b = g := e; omega)
  have hS : ∀ b, (g < b ∧ b < wr.heap.size) → (g < b ∧ b < (wr.setCells g (k * 6) ((xs k).cells a).toList).heap.size) := fun b h => ⟨h.1, by rw [setCells_size]; exact h.2⟩
  by_cases e : i = k
  · rw [if_pos e, e]
    exact ExIn.keep hkeep hS _ _ ha
  · rw [if_neg e]
    exact ExIn.keep hkeep hS _ _ (h3 i (by omega))
/-- all that the row of arguments of a clone needs -/
theorem clone_args {xs : Nat → Ex} {P : Nat → EA} {n c g base : Nat} {wr : World} {T : Nat → Prop} (h : ArgInv xs P n c g base n wr) (hT : ∀ b, g ≤ b ∧ b < wr.heap.size → T b) :
    ∃ P' : Nat → EA, CellsS T wr (some ⟨g, 0, none⟩) (n * 6) (fun j => (xs (j / 6)).cell (P' (j / 6)) (j % 6)) ∧ ∀ i, i < n → ExIn T wr (xs i) (P' i) := by
  obtain ⟨P', h1, h2, h3⟩ := h
  exact ⟨P', h1.cellsS (hT g ⟨Nat.le_refl _, h1.lt⟩), fun i hi => ExIn.keep (fun _ _ _ => rfl) (fun b hS => hT b ⟨by omega, hS.2⟩) _ _ (h3 i hi)⟩
theorem clone_fin {w wz w99 : World} {R : Nat} {e : Ex} {a : EA} (h : ExIn (fun b => w.heap.size ≤ b ∧ b ≠ R ∧ b < wz.heap.size) wz e a) (hl : Leaves (fun k => k = R) wz w99) (hR : w.heap.size ≤ R) (hb : Below w.heap.size w wz) : CloneP e w (.returned (.agg (e.cells a))) w99 :=
  ⟨a, rfl, ExIn.keep (fun b o hS => World.cell?_of_block (w := wz) (hl.block b hS.2.2 hS.2.1)) (fun b hS => ⟨hS.1, by have := hl.size; omega⟩) _ _ h, hb.trans (hl.below (fun k hk => by omega) hb.size)⟩

set_option maxRecDepth 100000 in
set_option maxHeartbeats 8000000 in
theorem cloneexpr_any (e : Ex) : ∀ (a : EA) (w : World), ExAt w w.heap.size e a → e.all fewQ → Calls Tryz.prog 49 #[.agg (e.cells a)] w (CloneP e w) := by
  induction e with
  | bot => exact fun a w h => h.elim
  | mk op name nw ws lo hi na xs ih =>
    intro a w hx hf
    have IH := Lib.hid ih
    have HX := Lib.hid hx
    have HF := Lib.hid hf.2
    have hnw : nw ≤ 12 := hf.1.1
    have hna : na ≤ 300 := hf.1.2
    obtain ⟨_, _, hst, P, hcc, hee⟩ := hx
    obtain ⟨Aw, cw, Aa, ca⟩ := a
    have HST : Hid (Strs w w.heap.size Aw nw ws) := Lib.hid hst
    have HCC : Hid (Cells w w.heap.size Aa (na * 6) (argF xs P)) := Lib.hid hcc
    have HEE : Hid (∀ i, i < na → ExAt w w.heap.size (xs i) (P i)) := Lib.hid hee
    have HXI := Lib.hid ex_info
    clear ih hst hf hcc hee
    unfold Ex.cells Ex.row
    simp only
    obtain ⟨G, hG⟩ : ∃ G, w.heap.size = G := ⟨_, rfl⟩
    have HGE := Lib.hid hG
    go_enter Tryz.func49, Tryz.ntmps49
    go_upto_region 1 with (fail)
    have HB : Hid (Below w.heap.size w ((w.alloc (.cells #[.int .i64 op, .string name, .slice Aw nw cw, .int .i64 lo, .int .i64 hi, .slice Aa na ca] 43)).alloc (.cells #[.int .i64 0, .string { data := #[] }, .slice none 0 0, .int .i64 0, .int .i64 0, .slice none 0 0] 43))) := Lib.hid (below_two _ _ _)
    have HE := Lib.hid ((Has.new w #[.int .i64 op, .string name, .slice Aw nw cw, .int .i64 lo, .int .i64 hi, .slice Aa na ca] 43).alloc (.cells #[.int .i64 0, .string { data := #[] }, .slice none 0 0, .int .i64 0, .int .i64 0, .slice none 0 0] 43))
    have HR := Lib.hid (Has.new' (w.alloc (.cells #[.int .i64 op, .string name, .slice Aw nw cw, .int .i64 lo, .int .i64 hi, .slice Aa na ca] 43)) (w.heap.size + 1) #[.int .i64 0, .string { data := #[] }, .slice none 0 0, .int .i64 0, .int .i64 0, .slice none 0 0] 43 (by simp))
    obtain ⟨W, hW⟩ : ∃ W, (w.alloc (.cells #[.int .i64 op, .string name, .slice Aw nw cw, .int .i64 lo, .int .i64 hi, .slice Aa na ca] 43)).alloc (.cells #[.int .i64 0, .string { data := #[] }, .slice none 0 0, .int .i64 0, .int .i64 0, .slice none 0 0] 43) = W := ⟨_, rfl⟩
    rw [hW] at HB HE HR ⊢
    clear hW
    try rw [hG] at HE HR
    try rw [hG]
    clear hG
    obtain ⟨e0, e1, e2⟩ := HE.out.rules
    have hRl := HR.out.lt
    have C1 := Lib.hid (clone_str Aw nw cw ws W (by omega) ((Cells.below HST.out HB.out).mono HB.out.size))
    go_wp2_with fail
    refine C1.out.mono ?_
    rintro e w1 hmade
    obtain ⟨Aw2, cw2, rfl, hcw2, hb1, hn1, ho1⟩ := RowMade.slice (by omega) hmade
    have HWS : Hid (CellsS (fun b => G + 1 < b ∧ b < w1.heap.size) w1 Aw2 nw (fun j => .string (ws j))) := Lib.hid (by
      cases Aw2 with
      | none => rw [hn1 rfl]; exact CellsS.zero
      | some ad =>
        obtain ⟨g, rfl, hg⟩ := ho1 _ rfl
        have := hg.cellsS (S := fun b => G + 1 < b ∧ b < w1.heap.size) ⟨by have := hg.base_le; omega, hg.lt⟩
        rwa [Nat.mul_one] at this)
    replace HE := Lib.hid (HE.out.below hb1 HE.out.lt)
    replace HR := Lib.hid (HR.out.below hb1 HR.out.lt)
    replace HB : Hid (Below w.heap.size w w1) := Lib.hid (HB.out.trans (hb1.mono HB.out.size))
    clear hmade C1 hb1 hn1 ho1 e0 e1 e2 HST hRl
    obtain ⟨e0, e1, e2⟩ := HE.out.rules
    have hRl := HR.out.lt
    go_upto_region 2 with (fail)
    have hGB : w.heap.size ≤ G := by have := HGE.out; omega
    have HE2 : Hid (Has (w1.setCell ⟨G, 2, none⟩ (.slice Aw2 nw cw2)) G #[.int .i64 op, .string name, .slice Aw2 nw cw2, .int .i64 lo, .int .i64 hi, .slice Aa na ca] 43) := Lib.hid (HE.out.put 2 (.slice Aw2 nw cw2))
    have HR2 := Lib.hid (HR.out.far (p := ⟨G, 2, none⟩) (by simp only; omega) (.slice Aw2 nw cw2))
    have HB2 : Hid (Below w.heap.size w (w1.setCell ⟨G, 2, none⟩ (.slice Aw2 nw cw2))) := Lib.hid (Below.setCell HB.out hGB _)
    have HWS2 : Hid (CellsS (fun b => G + 1 < b ∧ b < w1.heap.size) (w1.setCell ⟨G, 2, none⟩ (.slice Aw2 nw cw2)) Aw2 nw (fun j => .string (ws j))) := Lib.hid (HWS.out.keep (fun b o hb => World.cell?_setCell_other w1 _ _ _ (fun e => by injection e with e; omega)) fun _ h => h)
    have hsz : (w1.setCell ⟨G, 2, none⟩ (.slice Aw2 nw cw2)).heap.size = w1.heap.size := by simp
    obtain ⟨w2, hw2⟩ : ∃ z, w1.setCell ⟨G, 2, none⟩ (.slice Aw2 nw cw2) = z := ⟨_, rfl⟩
    rw [hw2] at HE2 HR2 HB2 HWS2 hsz ⊢
    rw [← hsz] at HWS2
    clear hw2 hsz HE HR HB HWS e0 e1 e2 hRl
    obtain ⟨e0, e1, e2⟩ := HE2.out.rules
    have C2 := Lib.hid (clone_ex Aa na ca (argF xs P) w2 (by omega) ((Cells.below HCC.out HB2.out).mono HB2.out.size) (fun j _ => argF_one xs P j))
    go_wp2_with fail
    refine C2.out.mono ?_
    rintro e w3 hmade
    obtain ⟨A2, c2, rfl, hc2, hb1, hn1, ho1⟩ := RowMade.slice (by omega) hmade
    have hsl := HR2.out.lt
    have HWS3 : Hid (CellsS (fun b => G + 1 < b ∧ b < w2.heap.size) w3 Aw2 nw (fun j => .string (ws j))) := Lib.hid (HWS2.out.keep (fun b o hb => hb1.cell (p := ⟨b, o, none⟩) hb.2) fun _ h => h)
    have HOW : Hid (∀ ad, A2 = some ad → ∃ g, ad = ⟨g, 0, none⟩ ∧ Own w3 w2.heap.size g na c2 6 43 (argF xs P)) := Lib.hid ho1
    have HNIL := Lib.hid hn1
    replace HE2 := Lib.hid (HE2.out.below hb1 HE2.out.lt)
    replace HR2 := Lib.hid (HR2.out.below hb1 HR2.out.lt)
    replace HB2 : Hid (Below w.heap.size w w3) := Lib.hid (HB2.out.trans (hb1.mono HB2.out.size))
    have hs3 := hb1.size
    clear hmade C2 hb1 hn1 ho1 e0 e1 e2 HWS2 HCC
    obtain ⟨e0, e1, e2⟩ := HE2.out.rules
    go_upto_region 3 with (fail)
    have HE4 : Hid (Has (w3.setCell ⟨G, 5, none⟩ (.slice A2 na c2)) G #[.int .i64 op, .string name, .slice Aw2 nw cw2, .int .i64 lo, .int .i64 hi, .slice A2 na c2] 43) := Lib.hid (HE2.out.put 5 (.slice A2 na c2))
    have HR4 := Lib.hid (HR2.out.far (p := ⟨G, 5, none⟩) (by simp only; omega) (.slice A2 na c2))
    have HB4 : Hid (Below w.heap.size w (w3.setCell ⟨G, 5, none⟩ (.slice A2 na c2))) := Lib.hid (Below.setCell HB2.out hGB _)
    have HWS4 : Hid (CellsS (fun b => G + 1 < b ∧ b < w2.heap.size) (w3.setCell ⟨G, 5, none⟩ (.slice A2 na c2)) Aw2 nw (fun j => .string (ws j))) := Lib.hid (HWS3.out.keep (fun b o hb => World.cell?_setCell_other w3 _ _ _ (fun e => by injection e with e; omega)) fun _ h => h)
    have HOW4 : Hid (∀ ad, A2 = some ad → ∃ g, ad = ⟨g, 0, none⟩ ∧ Own (w3.setCell ⟨G, 5, none⟩ (.slice A2 na c2)) w2.heap.size g na c2 6 43 (argF xs P)) := Lib.hid fun ad e => by
      obtain ⟨g, hg, ho⟩ := HOW.out ad e
      exact ⟨g, hg, ho.of_block (Below.heap_setCell w3 ⟨G, 5, none⟩ _ g (by have := ho.base_le; simp only; omega))⟩
    have hsz : (w3.setCell ⟨G, 5, none⟩ (.slice A2 na c2)).heap.size = w3.heap.size := by simp
    obtain ⟨w4, hw4⟩ : ∃ z, w3.setCell ⟨G, 5, none⟩ (.slice A2 na c2) = z := ⟨_, rfl⟩
    rw [hw4] at HE4 HR4 HB4 HWS4 HOW4 hsz ⊢
    obtain ⟨S2, hS2⟩ : ∃ z, w2.heap.size = z := ⟨_, rfl⟩
    rw [hS2] at HWS4 HOW4 hs3 hsl
    clear hw4 HE2 HR2 HB2 HWS3 HOW e0 e1 e2 hS2
    obtain ⟨e0, e1, e2⟩ := HE4.out.rules
    have HFIN : Hid (∀ (P' : Nat → EA) (wz : World), Below w.heap.size w wz → CellsS (fun b => G + 1 < b ∧ b < S2) wz Aw2 nw (fun j => .string (ws j)) → S2 ≤ wz.heap.size → CellsS (fun b => w.heap.size ≤ b ∧ b ≠ G + 1 ∧ b < wz.heap.size) wz A2 (na * 6) (fun j => (xs (j / 6)).cell (P' (j / 6)) (j % 6)) → (∀ i, i < na → ExIn (fun b => w.heap.size ≤ b ∧ b ≠ G + 1 ∧ b < wz.heap.size) wz (xs i) (P' i)) →
        ∀ w99, Leaves (fun k => k = G + 1) wz w99 → CloneP (.mk op name nw ws lo hi na xs) w (.returned (.agg #[.int .i64 op, .string name, .slice Aw2 nw cw2, .int .i64 lo, .int .i64 hi, .slice A2 na c2])) w99) := Lib.hid fun P' wz hb hws hsz hcs hin w99 hl =>
      clone_fin (a := ⟨Aw2, cw2, A2, c2⟩) (e := .mk op name nw ws lo hi na xs) ⟨⟨by unfold big; omega, hcw2⟩, ⟨by unfold big; omega, hc2⟩, hws.keep (fun _ _ _ => rfl) (fun b hS => ⟨by omega, by omega, by omega⟩), P', hcs, hin⟩ hl (by omega) hb
    cases A2 with
    | none =>
      have hz := HNIL.out rfl
      subst hz
      go_wp2_with fail
      go_loopw [16] (fun i wr => i = .int .i64 0 ∧ wr = w4) (fun _ _ => 0)
      case atStart => exact ⟨rfl, rfl⟩
      case round =>
        obtain ⟨rfl, rfl⟩ := hrel
        go_wp2_with (first
          | (refine wpList_load_has ?_ 43 (.tmp 1) ?_ G ?_ _ _ _ HE4.out Tryz.underlying43 ?_ HXI.out ?_; rfl; rfl; rfl; rfl)
          | (refine wpList_store_has ?_ 43 (.tmp 2) (.tmp 28) ?_ (G + 1) ?_ #[.int .i64 op, .string name, .slice Aw2 nw cw2, .int .i64 lo, .int .i64 hi, .slice none 0 c2] ?_ _ _ HR4.out HXI.out ?_ ?_ ?_; rfl; rfl; rfl; rfl; rfl; rfl; intro w99 hh9 hl9))
        refine bodyPost_ret (results_cell_row rfl _ _ (G + 1) _ _ _ _ ?_ hh9 Tryz.underlying43 rfl HXI.out) rfl ?_
        · rfl
        · exact HFIN.out (fun _ => ⟨none, 0, none, 0⟩) wr HB4.out HWS4.out (by omega) CellsS.zero (fun i hi => by omega) w99 hl9
    | some ad =>
      obtain ⟨g, rfl, how⟩ := HOW4.out _ rfl
      have HA0 : Hid (ArgInv xs P na c2 g S2 0 w4) := Lib.hid ⟨P, how, fun _ _ => rfl, fun i hi => by omega⟩
      have hgb : S2 ≤ g := how.base_le
      have hgl : g < w4.heap.size := how.lt
      clear how HOW4 HNIL
      go_wp2_with fail
      go_loopw [16] (fun i wr => ∃ k : Nat, k ≤ na ∧ i = .int .i64 k ∧ w4.heap.size ≤ wr.heap.size ∧ Hid (Below w.heap.size w wr) ∧ Hid (Has wr G #[.int .i64 op, .string name, .slice Aw2 nw cw2, .int .i64 lo, .int .i64 hi, .slice (some ⟨g, 0, none⟩) na c2] 43) ∧ Hid (Has wr (G + 1) #[.int .i64 0, .string { data := #[] }, .slice none 0 0, .int .i64 0, .int .i64 0, .slice none 0 0] 43) ∧ Hid (CellsS (fun b => G + 1 < b ∧ b < S2) wr Aw2 nw (fun j => .string (ws j))) ∧ Hid (ArgInv xs P na c2 g S2 k wr)) (fun i _ => na - (intOf i).toNat)
      case atStart => exact ⟨0, Nat.zero_le _, rfl, Nat.le_refl _, HB4, HE4, HR4, HWS4, HA0⟩
      case round =>
        clear HB4 HE4 HR4 HWS4 HA0 e0 e1 e2
        obtain ⟨k, hk, rfl, hs4, HB, HE, HR, HWS, HA⟩ := hrel
        obtain ⟨e0, e1, e2⟩ := HE.out.rules
        by_cases hlt : k < na
        · obtain ⟨P', ho, hPk, _⟩ := HA.out
          have hpk := hPk k (Nat.le_refl _)
          have hrg : wr.rangeAt g (k * 6) ((xs k).cells (P k)).toList := ho.range (by rw [Array.length_toList, Ex.cells_size]) hlt fun j hj => by rw [argF_at xs P' k j hj, hpk]; exact Ex.cells_get _ _ _ hj
          have hgr : g < wr.heap.size := ho.lt
          have hxk := HEE.out k hlt
          have HRG := Lib.hid hrg
          have HC1 := Lib.hid (Ex.cells_one (xs k) (P k))
          have HCALL : Hid (∀ W, Below w.heap.size w W → Calls Tryz.prog 49 #[.agg ((xs k).cells (P k))] W (CloneP (xs k) W)) := Lib.hid fun W hb => IH.out k (P k) W (hxk.below hb hb.size) (HF.out k hlt)
          have HCS : Hid (((xs k).cells (P k)).size = 6) := Lib.hid (Ex.cells_size _ _)
          obtain ⟨y, hy⟩ : ∃ y, xs k = y := ⟨_, rfl⟩
          have HYY := Lib.hid hy
          obtain ⟨pk, hpk'⟩ : ∃ z, P k = z := ⟨_, rfl⟩
          rw [hy, hpk'] at HRG HC1 HCALL HCS
          have hk0 : (0 : Int) ≤ k := by omega
          have hk1 : (k : Int) < na := by omega
          have hkc : k < c2 := by have := ho.len; omega
          clear ho hPk hpk hrg hxk hy hpk'
          go_upto_region 6 with (first
            | (refine wpList_load_mid ?_ 43 (.tmp 19) ?_ g (k * 6) ?_ _ _ HRG.out Tryz.underlying43 ?_ (by rw [Array.length_toList, HCS.out]; exact HXI.out) ?_; rfl; rfl; rfl; rfl)
            | (refine wpList_store_has ?_ 43 (.tmp 4) (.tmp 20) ?_ wr.heap.size ?_ (y.cells pk) ?_ _ _ (Has.new wr _ _) (by rw [HCS.out]; exact HXI.out) (by rw [HCS.out]; rfl) HC1.out ?_; rfl; rfl; rfl; rfl; intro w5 hh5 hl5))
          have hb5 : Below wr.heap.size wr w5 := ((Below.refl _ _).alloc (Nat.le_refl _) _).trans (hl5.below (fun k hk => by omega) (by simp))
          have HH := Lib.hid hh5
          obtain ⟨H, hH⟩ : ∃ H, wr.heap.size = H := ⟨_, rfl⟩
          replace HE := Lib.hid (HE.out.below hb5 e2)
          replace HR := Lib.hid (HR.out.below hb5 HR.out.lt)
          replace HB : Hid (Below w.heap.size w w5) := Lib.hid (HB.out.trans (hb5.mono HB.out.size))
          replace HWS : Hid (CellsS (fun b => G + 1 < b ∧ b < S2) w5 Aw2 nw (fun j => .string (ws j))) := Lib.hid (HWS.out.keep (fun b o hb => hb5.cell (p := ⟨b, o, none⟩) (by simp only; omega)) fun _ h => h)
          replace HA := Lib.hid (HA.out.below hb5)
          have hs5 := hb5.size
          have HGH : Hid (G < H ∧ g < H ∧ G < g) := Lib.hid ⟨by omega, by omega, by omega⟩
          rw [hH] at HH hs5 hs4 ⊢
          clear hb5 hh5 hl5 HRG HC1 hH e0 e1
          have HBB : Hid (Below w5.heap.size w5 w5) := Lib.hid (Below.refl _ _)
          have HHAS : Hid (∀ W, Below w5.heap.size w5 W → Has W G #[.int .i64 op, .string name, .slice Aw2 nw cw2, .int .i64 lo, .int .i64 hi, .slice (some ⟨g, 0, none⟩) na c2] 43 ∧ Has W H (y.cells pk) 43 ∧ ArgInv xs P na c2 g S2 k W) := Lib.hid fun W hb => ⟨HE.out.below hb HE.out.lt, HH.out.below hb HH.out.lt, HA.out.below hb⟩
          have HSS0 : Hid (∀ W F, Has W G #[.int .i64 op, .string name, .slice Aw2 nw cw2, .int .i64 lo, .int .i64 hi, .slice (some ⟨g, 0, none⟩) na c2] 43 → Has W H (y.cells pk) 43 → Own W S2 g na c2 6 43 F → W.cell? ⟨G, 5, none⟩ = some (.slice (some ⟨g, 0, none⟩) na c2) ∧ (∃ c, ExPtr W (.pointer (some ⟨H, 0, none⟩)) c) ∧ exCells W (.pointer (some ⟨H, 0, none⟩)) = y.cells pk ∧ ThPtr W (.pointer (some ⟨g, k * 6, none⟩))) := Lib.hid fun W F h1 h2 h3 => by
            have hr : W.rangeAt H 0 (y.cells pk).toList := fun j v hj => by rw [Nat.zero_add, h2.cell]; simpa using hj
            exact ⟨by rw [h1.cell]; rfl, (ExS.of hr).1, (ExS.of hr).2, g, k * 6, rfl, h3.there hlt⟩
          have HSS : Hid (∀ W, Below w5.heap.size w5 W → W.cell? ⟨G, 5, none⟩ = some (.slice (some ⟨g, 0, none⟩) na c2) ∧ (∃ c, ExPtr W (.pointer (some ⟨H, 0, none⟩)) c) ∧ exCells W (.pointer (some ⟨H, 0, none⟩)) = y.cells pk ∧ ThPtr W (.pointer (some ⟨g, k * 6, none⟩))) := Lib.hid fun W hb => by
            obtain ⟨h1, h2, P', h3, _⟩ := HHAS.out W hb
            exact HSS0.out W _ h1 h2 h3
          have HSP : Hid (∀ W (a : EA), Below w5.heap.size w5 W → (exPut W (.pointer (some ⟨g, k * 6, none⟩)) (.agg (y.cells a))).cell? ⟨G, 5, none⟩ = some (.slice (some ⟨g, 0, none⟩) na c2) ∧ (∃ c, ExPtr (exPut W (.pointer (some ⟨g, k * 6, none⟩)) (.agg (y.cells a))) (.pointer (some ⟨H, 0, none⟩)) c) ∧ exCells (exPut W (.pointer (some ⟨g, k * 6, none⟩)) (.agg (y.cells a))) (.pointer (some ⟨H, 0, none⟩)) = y.cells pk ∧ ThPtr (exPut W (.pointer (some ⟨g, k * 6, none⟩)) (.agg (y.cells a))) (.pointer (some ⟨g, k * 6, none⟩))) := Lib.hid fun W a hb => by
            obtain ⟨h1, h2, P', h3, _⟩ := HHAS.out W hb
            have h4 := argF_put (a := a) h3 hlt
            rw [HYY.out] at h4
            have hgh := HGH.out
            exact HSS0.out (W.setCells g (k * 6) (y.cells a).toList) _ ((setCells_other g _ _ W G (by omega)).trans h1) ((setCells_other g _ _ W H (by omega)).trans h2) h4
          have he2 := HE.out.lt
          clear HSS0
          obtain ⟨YY, hYY⟩ : ∃ z, y.cells pk = z := ⟨_, rfl⟩
          rw [hYY] at HSS HSP HCALL HH HHAS HCS ⊢
          clear hYY
          go_wp2_with fail
          go_region_held3 (fun W => W.cell? ⟨G, 5, none⟩ = some (.slice (some ⟨g, 0, none⟩) na c2) ∧ (∃ c, ExPtr W (.pointer (some ⟨H, 0, none⟩)) c) ∧ exCells W (.pointer (some ⟨H, 0, none⟩)) = YY ∧ ThPtr W (.pointer (some ⟨g, k * 6, none⟩))) (first | exact HSS.out _ HBB.out | exact HSS.out _ (below_drew HBB.out) | exact HSP.out _ _ HBB.out | exact HSP.out _ _ (below_drew HBB.out)) (first
            | (go_at_call 49; refine (HCALL.out _ ?hh).mono ?_; (case hh => first | exact HB.out.trans (HBB.out.mono HB.out.size) | exact HB.out.trans ((below_drew HBB.out).mono HB.out.size)); rintro e w6 ⟨a', rfl, hin', hb6⟩; have hval : ExVal (.agg (y.cells a')) := ⟨_, _, rfl⟩; have HIN' := Lib.hid hin'; replace HBB : Hid (Below w5.heap.size w5 w6) := Lib.hid (by first | exact HBB.out.trans (hb6.mono HBB.out.size) | exact (below_drew HBB.out).trans (hb6.mono HBB.out.size)); clear hb6 hin'))
          have hg5 : g < w5.heap.size := by have := HGH.out; have := HH.out.lt; omega
          have HIN2 : Hid (ExIn (fun b => g < b ∧ b < w6.heap.size) w6 (xs k) a') := Lib.hid (by
            rw [HYY.out]
            exact ExIn.keep (fun _ _ _ => rfl) (fun b hS => ⟨Nat.lt_of_lt_of_le hg5 hS.1, hS.2⟩) _ _ HIN'.out)
          have HA7 : Hid (ArgInv xs P na c2 g S2 (k + 1) (exPut w6 (.pointer (some ⟨g, k * 6, none⟩)) (.agg (y.cells a')))) := Lib.hid (by
            have := (HHAS.out w6 HBB.out).2.2.put hlt HIN2.out
            rw [HYY.out] at this
            exact this)
          have hl7 : Leaves (fun k => k = g) w6 (exPut w6 (.pointer (some ⟨g, k * 6, none⟩)) (.agg (y.cells a'))) := leaves_setCells g _ _ _
          have hb67 := hl7.below (B := S2) (fun k hk => by omega) (by have := HBB.out.size; omega)
          have HB7 : Hid (Below w.heap.size w (exPut w6 (.pointer (some ⟨g, k * 6, none⟩)) (.agg (y.cells a')))) := Lib.hid ((HB.out.trans (HBB.out.mono HB.out.size)).trans (hb67.mono (by omega)))
          have HE7 := Lib.hid ((HE.out.below HBB.out he2).leaves hl7 (by have := HGH.out; omega))
          have HR7 := Lib.hid ((HR.out.below HBB.out HR.out.lt).leaves hl7 (by omega))
          have HW7 : Hid (CellsS (fun b => G + 1 < b ∧ b < S2) (exPut w6 (.pointer (some ⟨g, k * 6, none⟩)) (.agg (y.cells a'))) Aw2 nw (fun j => .string (ws j))) := Lib.hid (HWS.out.keep (fun b o hb => (hb67.cell (p := ⟨b, o, none⟩) hb.2).trans (HBB.out.cell (p := ⟨b, o, none⟩) (by simp only; omega))) fun _ h => h)
          have hs7 := hl7.size
          have hs6 := HBB.out.size
          obtain ⟨w7, hw7⟩ : ∃ z, exPut w6 (.pointer (some ⟨g, k * 6, none⟩)) (.agg (y.cells a')) = z := ⟨_, rfl⟩
          rw [hw7] at HA7 HB7 HE7 HR7 HW7 hs7 ⊢
          clear hw7 hl7 hb67 HIN2 HIN' HSS HSP HHAS HBB HCALL HH HE HR HB HWS HA
          go_wp2_with fail
          go_roundw
          case rel => exact ⟨k + 1, by omega, by go_num, by omega, HB7, HE7, HR7, HW7, HA7⟩
          case measure => simp [intOf]; omega
        · have hkn : k = na := by omega
          subst hkn
          have hdd : decide ((k : Int) < k) = false := by rw [decide_eq_false_iff_not]; omega
          obtain ⟨P', hcs, hin⟩ := clone_args (T := fun b => w.heap.size ≤ b ∧ b ≠ G + 1 ∧ b < wr.heap.size) HA.out (fun b hb => ⟨by omega, by omega, hb.2⟩)
          have HFF := Lib.hid (HFIN.out P' wr HB.out HWS.out (by omega) hcs hin)
          clear hcs hin
          go_wp2_with (first
            | (refine wpList_load_has ?_ 43 (.tmp 1) ?_ G ?_ _ _ _ HE.out Tryz.underlying43 ?_ HXI.out ?_; rfl; rfl; rfl; rfl)
            | (refine wpList_store_has ?_ 43 (.tmp 2) (.tmp 28) ?_ (G + 1) ?_ #[.int .i64 op, .string name, .slice Aw2 nw cw2, .int .i64 lo, .int .i64 hi, .slice (some ⟨g, 0, none⟩) k c2] ?_ _ _ HR.out HXI.out ?_ ?_ ?_; rfl; rfl; rfl; rfl; rfl; rfl; intro w99 hh9 hl9))
          refine bodyPost_ret (results_cell_row rfl _ _ (G + 1) _ _ _ _ ?_ hh9 Tryz.underlying43 rfl HXI.out) rfl ?_
          · rfl
          · exact HFF.out w99 hl9
end Go.Proofs.YtlbkhhbbkedhkaaGreatDoor
namespace Go.Proofs.YtlbkhhbbkedhkaaGreatDoor
open Go.RowKit
set_option linter.unusedVariables false

/-- some cells of a row are written -/
theorem Own.writes {w : World} {base g n cap s o : Nat} {e : TypeId} {F G : Nat → Value} {vs : List Value} (h : Own w base g n cap s e F) (ho : o + vs.length ≤ n * s)
    (hG : ∀ j, j < n * s → some (G j) = if o ≤ j ∧ j < o + vs.length then vs[j - o]? else some (F j)) : Own (w.setCells g o vs) base g n cap s e G := by
  obtain ⟨cur, hh, h1, h2, h3, h4⟩ := h
  have hle := Nat.mul_le_mul_right s h2.1
  obtain ⟨cur', g1, g2, g3⟩ := setCells_block g e vs o cur w hh (by rw [h3]; omega)
  refine ⟨cur', g1, h1, h2, by rw [g2, h3], fun j hj => ?_⟩
  rw [g3 j, hG j hj]
  by_cases c : o ≤ j ∧ j < o + vs.length
  · rw [if_pos c, if_pos c]
  · rw [if_neg c, if_neg c]
    exact h4 j hj
theorem Own.there' {w : World} {base g n cap s o m : Nat} {e : TypeId} {F : Nat → Value} (h : Own w base g n cap s e F) (ho : o + m ≤ n * s) : w.there g o m := fun j hj => ⟨by rw [h.cell (by omega)]; rfl, h.free _⟩

def wbF (us : Nat → Wb) (P : Nat → WA) (j : Nat) : Value := (us (j / 8)).cell (P (j / 8)) (j % 8)
theorem wbF_at (us : Nat → Wb) (P : Nat → WA) (i j : Nat) (hj : j < 8) : wbF us P (i * 8 + j) = (us i).cell (P i) j := by
  unfold wbF
  rw [(at_div (by omega) hj).1, (at_div (by omega) hj).2]
theorem Wb.cell_ex (b : Wb) (a : WA) (k : Nat) (h1 : 1 ≤ k) (h2 : k < 7) : b.cell a k = b.e.cell a.ea (k - 1) := by
  cases b
  all_goals
    match k, h1, h2 with
    | 1, _, _ | 2, _, _ | 3, _, _ | 4, _, _ | 5, _, _ | 6, _, _ => rfl
theorem Wb.cell_zero (b : Wb) (a : WA) : b.cell a 0 = .string b.name := by cases b <;> rfl
theorem Wb.cell_last (b : Wb) (a : WA) : b.cell a 7 = .slice a.A b.n a.c := by cases b <;> rfl
theorem Wb.cell_one (b : Wb) (a : WA) (k : Nat) (hk : k < 8) : (b.cell a k).oneCell' = true := by
  by_cases h0 : k = 0
  · subst h0; rw [Wb.cell_zero]; rfl
  · by_cases h7 : k = 7
    · subst h7; rw [Wb.cell_last]; rfl
    · rw [Wb.cell_ex _ _ _ (by omega) (by omega)]
      exact Ex.cell_one _ _ _
theorem wbF_one (us : Nat → Wb) (P : Nat → WA) (j : Nat) : (wbF us P j).oneCell' = true := Wb.cell_one _ _ _ (Nat.mod_lt _ (by omega))
theorem wbF_when {us : Nat → Wb} {P : Nat → WA} {i : Nat} {a : EA} {w : World} {base g n cap : Nat} {e : TypeId} (h : Own w base g n cap 8 e (wbF us P)) (hi : i < n) :
    Own (w.setCells g (i * 8 + 1) ((us i).e.cells a).toList) base g n cap 8 e (wbF us (fun j => if j = i then ⟨a, (P i).A, (P i).c⟩ else P j)) := by
  have hl : ((us i).e.cells a).toList.length = 6 := by rw [Array.length_toList, Ex.cells_size]
  refine h.writes (by rw [hl]; omega) fun j hj => ?_
  rw [hl]
  by_cases c : j / 8 = i
  · unfold wbF
    dsimp only
    rw [if_pos c, c]
    have hm : i * 8 + j % 8 = j := by omega
    by_cases c1 : 1 ≤ j % 8 ∧ j % 8 < 7
    · rw [if_pos (by omega), Wb.cell_ex _ _ _ c1.1 c1.2, show j - (i * 8 + 1) = j % 8 - 1 by omega, Ex.cells_get _ _ _ (by omega)]
    · rw [if_neg (by omega)]
      have c2 : j % 8 = 0 ∨ j % 8 = 7 := by omega
      rcases c2 with c2 | c2
      · rw [c2, Wb.cell_zero, Wb.cell_zero]
      · rw [c2, Wb.cell_last, Wb.cell_last]
  · rw [if_neg (by omega)]
    unfold wbF
    dsimp only
    rw [if_neg c]
theorem wbF_unless {us : Nat → Wb} {P : Nat → WA} {i c : Nat} {A : Option Addr} {w : World} {base g n cap : Nat} {e : TypeId} (h : Own w base g n cap 8 e (wbF us P)) (hi : i < n) :
    Own (w.setCell ⟨g, i * 8 + 7, none⟩ (.slice A (us i).n c)) base g n cap 8 e (wbF us (fun j => if j = i then ⟨(P i).ea, A, c⟩ else P j)) := by
  have := h.writes (o := i * 8 + 7) (vs := [.slice A (us i).n c]) (G := wbF us (fun j => if j = i then ⟨(P i).ea, A, c⟩ else P j)) (by simp; omega) fun j hj => by
    simp only [List.length_cons, List.length_nil]
    by_cases d : j / 8 = i
    · unfold wbF
      dsimp only
      rw [if_pos d, d]
      by_cases c1 : j % 8 = 7
      · rw [if_pos (by omega), c1, Wb.cell_last, show j - (i * 8 + 7) = 0 by omega]
        rfl
      · rw [if_neg (by omega)]
        by_cases c2 : j % 8 = 0
        · rw [c2, Wb.cell_zero, Wb.cell_zero]
        · rw [Wb.cell_ex _ _ _ (by omega) (by omega), Wb.cell_ex _ _ _ (by omega) (by omega)]
    · rw [if_neg (by omega)]
      unfold wbF
      dsimp only
      rw [if_neg d]
  exact this

/-- while the write-backs are cloned: the first k lie in fresh blocks -/
def BackInv (us : Nat → Wb) (P : Nat → WA) (n c g base k : Nat) (wr : World) : Prop := ∃ P' : Nat → WA, Own wr base g n c 8 97 (wbF us P') ∧ (∀ i, k ≤ i → P' i = P i) ∧ ∀ i, i < k → WbIn (fun b => g < b ∧ b < wr.heap.size) wr (us i) (P' i)
theorem BackInv.below {us : Nat → Wb} {P : Nat → WA} {n c g base k : Nat} {wr w' : World} (h : BackInv us P n c g base k wr) (hb : Below wr.heap.size wr w') : BackInv us P n c g base k w' := by
  obtain ⟨P', h1, h2, h3⟩ := h
  exact ⟨P', h1.later hb, h2, fun i hi => WbIn.keep (fun b o hS => hb.cell (p := ⟨b, o, none⟩) hS.2) (fun b hS => ⟨hS.1, by have := hb.size; omega⟩) _ _ (h3 i hi)⟩
/-- and of the next one the condition is cloned -/
def BackHalf (us : Nat → Wb) (P : Nat → WA) (a : EA) (n c g base k : Nat) (wr : World) : Prop := ∃ P' : Nat → WA, Own wr base g n c 8 97 (wbF us P') ∧ (∀ i, k < i → P' i = P i) ∧ P' k = ⟨a, (P k).A, (P k).c⟩ ∧ (∀ i, i < k → WbIn (fun b => g < b ∧ b < wr.heap.size) wr (us i) (P' i)) ∧ ExIn (fun b => g < b ∧ b < wr.heap.size) wr (us k).e a
theorem BackHalf.below {us : Nat → Wb} {P : Nat → WA} {a : EA} {n c g base k : Nat} {wr w' : World} (h : BackHalf us P a n c g base k wr) (hb : Below wr.heap.size wr w') : BackHalf us P a n c g base k w' := by
  obtain ⟨P', h1, h2, h3, h4, h5⟩ := h
  exact ⟨P', h1.later hb, h2, h3, fun i hi => WbIn.keep (fun b o hS => hb.cell (p := ⟨b, o, none⟩) hS.2) (fun b hS => ⟨hS.1, by have := hb.size; omega⟩) _ _ (h4 i hi), ExIn.keep (fun b o hS => hb.cell (p := ⟨b, o, none⟩) hS.2) (fun b hS => ⟨hS.1, by have := hb.size; omega⟩) _ _ h5⟩
theorem BackInv.half {us : Nat → Wb} {P : Nat → WA} {n c g base k : Nat} {wr : World} {a : EA} (h : BackInv us P n c g base k wr) (hk : k < n) (ha : ExIn (fun b => g < b ∧ b < wr.heap.size) wr (us k).e a) :
    BackHalf us P a n c g base k (wr.setCells g (k * 8 + 1) ((us k).e.cells a).toList) := by
  obtain ⟨P', h1, h2, h3⟩ := h
  have hkeep : ∀ b o, g < b ∧ b < wr.heap.size → (wr.setCells g (k * 8 + 1) ((us k).e.cells a).toList).cell? ⟨b, o, none⟩ = wr.cell? ⟨b, o, none⟩ := fun b o hS => World.cell?_setCells_out g _ _ _ _ (fun e => by have e : b = g := e; omega)
  have hS : ∀ b, (g < b ∧ b < wr.heap.size) → (g < b ∧ b < (wr.setCells g (k * 8 + 1) ((us k).e.cells a).toList).heap.size) := fun b h => ⟨h.1, by rw [setCells_size]; exact h.2⟩
  refine ⟨_, wbF_when h1 hk, fun i hi => by rw [if_neg (by omega)]; exact h2 i (by omega), by rw [if_pos rfl, h2 k (Nat.le_refl _)], fun i hi => ?_, ExIn.keep hkeep hS _ _ ha⟩
  rw [if_neg (by omega)]
  exact WbIn.keep hkeep hS _ _ (h3 i hi)
theorem WbIn.make {S : Nat → Prop} {w : World} {b : Wb} {a : WA} (h1 : ExIn S w b.e a.ea) (h2 : WbsIn S w a.A b.n b.us) : WbIn S w b a := by
  cases b with
  | bot => exact h1.elim
  | mk name e n us => exact ⟨h2.1, h1, h2.2⟩
theorem BackHalf.full {us : Nat → Wb} {P : Nat → WA} {n c g base k c' : Nat} {wr : World} {a : EA} {A : Option Addr} (h : BackHalf us P a n c g base k wr) (hk : k < n) (hb : WbsIn (fun b => g < b ∧ b < wr.heap.size) wr A (us k).n (us k).us) :
    BackInv us P n c g base (k + 1) (wr.setCell ⟨g, k * 8 + 7, none⟩ (.slice A (us k).n c')) := by
  obtain ⟨P', h1, h2, h3, h4, h5⟩ := h
  have hkeep : ∀ b o, g < b ∧ b < wr.heap.size → (wr.setCell ⟨g, k * 8 + 7, none⟩ (.slice A (us k).n c')).cell? ⟨b, o, none⟩ = wr.cell? ⟨b, o, none⟩ := fun b o hS => World.cell?_setCell_other wr _ _ _ (fun e => by injection e with e; omega)
  have hS : ∀ b, (g < b ∧ b < wr.heap.size) → (g < b ∧ b < (wr.setCell ⟨g, k * 8 + 7, none⟩ (.slice A (us k).n c')).heap.size) := fun b h => ⟨h.1, by simp; exact h.2⟩
  refine ⟨_, wbF_unless h1 hk, fun i hi => by rw [if_neg (by omega)]; exact h2 i (by omega), fun i hi => ?_⟩
  by_cases e : i = k
  · rw [if_pos e, e, h3]
    exact WbIn.make (ExIn.keep hkeep hS _ _ h5) (hb.keep hkeep hS)
  · rw [if_neg e]
    exact WbIn.keep hkeep hS _ _ (h4 i (by omega))
theorem clone_backs {us : Nat → Wb} {P : Nat → WA} {n c g base : Nat} {wr : World} {T : Nat → Prop} (hn : n ≤ big) (h : BackInv us P n c g base n wr) (hT : ∀ b, g ≤ b ∧ b < wr.heap.size → T b) : WbsIn T wr (some ⟨g, 0, none⟩) n us := by
  obtain ⟨P', h1, h2, h3⟩ := h
  exact ⟨hn, P', h1.cellsS (hT g ⟨Nat.le_refl _, h1.lt⟩), fun i hi => WbIn.keep (fun _ _ _ => rfl) (fun b hS => hT b ⟨by omega, hS.2⟩) _ _ (h3 i hi)⟩
/-- what cloneWriteBacks returns -/
def CloneW (n : Nat) (us : Nat → Wb) (w : World) (r : Ending) (w' : World) : Prop := ∃ (A : Option Addr) (c : Nat), r = .returned (.slice A n c) ∧ WbsIn (fun b => w.heap.size ≤ b ∧ b < w'.heap.size) w' A n us ∧ Below w.heap.size w w'
end Go.Proofs.YtlbkhhbbkedhkaaGreatDoor
