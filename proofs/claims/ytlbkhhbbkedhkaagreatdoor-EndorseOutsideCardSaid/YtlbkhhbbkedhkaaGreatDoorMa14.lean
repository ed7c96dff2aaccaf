/- endorse.cloneWriteBacks: the walk. endorse.cloneClause: the same clause, in fresh blocks. The clauses in force, in plain words; lists of clauses in memory. No program in sight. wording.Find: the first clause with a name. -/
import Derived.Test.YtlbkhhbbkedhkaaGreatDoorMa13
namespace Go.Proofs.YtlbkhhbbkedhkaaGreatDoor
open Go.RowKit
set_option linter.unusedVariables false

set_option maxRecDepth 100000 in
set_option maxHeartbeats 8000000 in
theorem clonebacks_any (b : Wb) : ∀ (A : Option Addr) (ca : Nat) (w : World), WbsAt w w.heap.size A b.n b.us → fewL b.n b.us → Calls Tryz.prog 50 #[.slice A b.n ca] w (CloneW b.n b.us w) := by
  induction b using Wb.recL with
  | bot h => exact h
  | mk name e n us ih =>
    intro A ca w hx hf
    show Calls Tryz.prog 50 #[.slice A n ca] w (CloneW n us w)
    have IH := Lib.hid ih
    have hx : WbsAt w w.heap.size A n us := hx
    have hf : fewL n us := hf
    have HF := Lib.hid hf.2
    have hn4 : n ≤ 40 := hf.1
    obtain ⟨hbig, P, hcc, hee⟩ := hx
    have HCC : Hid (Cells w w.heap.size A (n * 8) (wbF us P)) := Lib.hid hcc
    have HEE : Hid (∀ i, i < n → ExAt w w.heap.size (us i).e (P i).ea ∧ WbsAt w w.heap.size (P i).A (us i).n (us i).us) := Lib.hid fun i hi => (hee i hi).parts
    have HXI := Lib.hid ex_info
    have HWI := Lib.hid wb_info
    have HBIG := Lib.hid hbig
    have C1 := Lib.hid (clone_wb A n ca (wbF us P) w (by omega) hcc (fun j _ => wbF_one us P j))
    clear ih hf hcc hee hx hbig
    go_enter Tryz.func50, Tryz.ntmps50
    go_wp2_with fail
    refine C1.out.mono ?_
    rintro r w1 hmade
    obtain ⟨A2, c2, rfl, hc2, hb1, hn1, ho1⟩ := RowMade.slice (by omega) hmade
    have HB := Lib.hid hb1
    cases A2 with
    | none =>
      have hz := hn1 rfl
      subst hz
      clear hmade C1 hb1 ho1 hn1
      go_wp2_with fail
      go_loopw [9] (fun i wr => i = .int .i64 0 ∧ wr = w1) (fun _ _ => 0)
      case atStart => exact ⟨rfl, rfl⟩
      case round =>
        obtain ⟨rfl, rfl⟩ := hrel
        go_wp2_with fail
        go_ret
        exact ⟨none, c2, rfl, ⟨HBIG.out, fun _ => ⟨⟨none, 0, none, 0⟩, none, 0⟩, CellsS.zero, fun i hi => by omega⟩, HB.out⟩
    | some ad =>
      obtain ⟨g, rfl, how⟩ := ho1 _ rfl
      have HA0 : Hid (BackInv us P n c2 g w.heap.size 0 w1) := Lib.hid ⟨P, how, fun _ _ => rfl, fun i hi => by omega⟩
      have hgb : w.heap.size ≤ g := how.base_le
      have hgl : g < w1.heap.size := how.lt
      clear hmade C1 hb1 ho1 hn1 how
      go_wp2_with fail
      go_loopw [9] (fun i wr => ∃ k : Nat, k ≤ n ∧ i = .int .i64 k ∧ Hid (Below w.heap.size w wr) ∧ Hid (BackInv us P n c2 g w.heap.size k wr)) (fun i _ => n - (intOf i).toNat)
      case atStart => exact ⟨0, Nat.zero_le _, rfl, HB, HA0⟩
      case round =>
        clear HB HA0 hgl
        obtain ⟨k, hk, rfl, HB, HA⟩ := hrel
        by_cases hlt : k < n
        · obtain ⟨P', ho, hPk, _⟩ := HA.out
          have hpk := hPk k (Nat.le_refl _)
          have hrg : wr.rangeAt g (k * 8) ((us k).cells (P k)).toList := ho.range (by rfl) hlt fun j hj => by rw [wbF_at us P' k j hj, hpk]; exact Wb.cells_get _ _ _ hj
          have hgr : g < wr.heap.size := ho.lt
          have hkc : k < c2 := by have := ho.len; omega
          obtain ⟨x0, x1, x2, x3, x4, x5, hcs, hce, hc1⟩ := Wb.cells_ex (us k) (P k)
          rw [hcs] at hrg
          have HRG := Lib.hid hrg
          have HC1 := Lib.hid hc1
          have HCE : Hid (∀ W, Below w.heap.size w W → Calls Tryz.prog 49 #[.agg #[x0, x1, x2, x3, x4, x5]] W (CloneP (us k).e W)) := Lib.hid fun W hb => by
            rw [hce]
            have hf := HF.out k hlt
            refine cloneexpr_any (us k).e (P k).ea W ((HEE.out k hlt).1.below hb hb.size) ?_
            revert hf
            cases us k
            · exact fun h => h.elim
            · exact fun h => h.1
          have HCW : Hid (∀ W, Below w.heap.size w W → Calls Tryz.prog 50 #[.slice (P k).A (us k).n (P k).c] W (CloneW (us k).n (us k).us W)) := Lib.hid fun W hb => by
            have hf := HF.out k hlt
            refine IH.out k hlt (P k).A (P k).c W ((HEE.out k hlt).2.below hb hb.size) ?_
            revert hf
            cases us k
            · exact fun h => h.elim
            · exact fun h => h.2
          obtain ⟨nm, hnm⟩ : ∃ z, (us k).name = z := ⟨_, rfl⟩
          obtain ⟨yn, hyn⟩ : ∃ z, (us k).n = z := ⟨_, rfl⟩
          have HYN := Lib.hid hyn
          obtain ⟨⟨pe, pA, pc⟩, hpa⟩ : ∃ z, P k = z := ⟨_, rfl⟩
          rw [hnm, hyn, hpa] at HRG HC1
          rw [hyn, hpa] at HCW
          try simp only at HRG HC1 HCW
          have hk0 : (0 : Int) ≤ k := by omega
          have hk1 : (k : Int) < n := by omega
          clear ho hPk hpk hrg hcs hce hc1 hnm hyn hpa
          go_upto_region 5 with (first
            | (refine wpList_load_mid ?_ 97 (.tmp 12) ?_ g (k * 8) ?_ _ _ HRG.out Tryz.underlying97 ?_ HWI.out ?_; rfl; rfl; rfl; rfl)
            | (refine wpList_store_has ?_ 97 (.tmp 4) (.tmp 13) ?_ wr.heap.size ?_ #[.string nm, x0, x1, x2, x3, x4, x5, .slice pA yn pc] ?_ _ _ (Has.new wr _ _) HWI.out ?_ ?_ ?_; rfl; rfl; rfl; rfl; rfl; exact HC1.out; intro w5 hh5 hl5))
          have hb5 : Below wr.heap.size wr w5 := ((Below.refl _ _).alloc (Nat.le_refl _) _).trans (hl5.below (fun k hk => by omega) (by simp))
          have HH := Lib.hid hh5
          have hs := HB.out.size
          obtain ⟨H, hH⟩ : ∃ H, wr.heap.size = H := ⟨_, rfl⟩
          replace HB : Hid (Below w.heap.size w w5) := Lib.hid (HB.out.trans (hb5.mono hs))
          replace HA := Lib.hid (HA.out.below hb5)
          have hgH : g < H := by omega
          rw [hH] at HH ⊢
          clear hb5 hh5 hl5 HRG HC1 hH hs hgr
          obtain ⟨e0, e1, e2⟩ := HH.out.rules
          have HRX : Hid (w5.rangeAt H 1 [x0, x1, x2, x3, x4, x5]) := Lib.hid (range_six (by rw [HH.out.cell]; rfl) (by rw [HH.out.cell]; rfl) (by rw [HH.out.cell]; rfl) (by rw [HH.out.cell]; rfl) (by rw [HH.out.cell]; rfl) (by rw [HH.out.cell]; rfl))
          go_wp2_with ((refine wpList_load_midw ?_ 43 (.tmp 16) ?_ H 1 ?_ _ _ HRX.out Tryz.underlying43 ?_ HXI.out ?_; rfl; rfl; rfl; rfl))
          refine (HCE.out _ HB.out).mono ?_
          rintro r w6 ⟨a', rfl, hin, hb6⟩
          have hg5 : g < w5.heap.size := by omega
          have HIN : Hid (ExIn (fun b => g < b ∧ b < w6.heap.size) w6 (us k).e a') := Lib.hid (ExIn.keep (fun _ _ _ => rfl) (fun b hS => ⟨by omega, hS.2⟩) _ _ hin)
          replace HB : Hid (Below w.heap.size w w6) := Lib.hid (HB.out.trans (hb6.mono HB.out.size))
          replace HA := Lib.hid (HA.out.below hb6)
          replace HH := Lib.hid (HH.out.below hb6 HH.out.lt)
          have HTH : Hid (w6.there g (k * 8 + 1) ((us k).e.cells a').size) := Lib.hid (by
            obtain ⟨P', ho, _⟩ := HA.out
            rw [Ex.cells_size]
            exact ho.there' (by omega))
          have HCZ : Hid (((us k).e.cells a').size = 6 ∧ ((us k).e.cells a').all (·.oneCell') = true) := Lib.hid ⟨Ex.cells_size _ _, by rw [← Array.all_toList]; exact Ex.cells_one _ _⟩
          have HHF := Lib.hid (HA.out.half hlt HIN.out)
          obtain ⟨YC, hYC⟩ : ∃ z, (us k).e.cells a' = z := ⟨_, rfl⟩
          rw [hYC] at HTH HCZ HHF ⊢
          clear hin hb6 HRX e0 e1 e2 hYC HCE HIN HA
          go_upto_region 6 with ((refine wpList_store_mid ?_ 43 (.tmp 20) (.tmp 18) ?_ g (k * 8 + 1) YC ?_ ?_ HTH.out (by rw [HCZ.out.1]; exact HXI.out) HCZ.out.2 ?_; rfl; rfl; rfl; rfl))
          have hl7 := leaves_setCells g YC.toList (k * 8 + 1) w6
          have HB7 : Hid (Below w.heap.size w (w6.setCells g (k * 8 + 1) YC.toList)) := Lib.hid (HB.out.trans (hl7.below (fun k hk => by omega) HB.out.size))
          have HH7 := Lib.hid (HH.out.leaves hl7 (by omega))
          obtain ⟨w7, hw7⟩ : ∃ z, w6.setCells g (k * 8 + 1) YC.toList = z := ⟨_, rfl⟩
          rw [hw7] at HHF HB7 HH7 ⊢
          clear hl7 hw7 HTH HCZ HB HH
          obtain ⟨e0, e1, e2⟩ := HH7.out.rules
          go_wp2_with fail
          refine (HCW.out _ HB7.out).mono ?_
          rintro r w8 ⟨B, bc, rfl, hin, hb8⟩
          have hg7 : g < w7.heap.size := by obtain ⟨_, ho, _⟩ := HHF.out; exact ho.lt
          have HIN : Hid (WbsIn (fun b => g < b ∧ b < w8.heap.size) w8 B (us k).n (us k).us) := Lib.hid (by rw [HYN.out]; exact hin.keep (fun _ _ _ => rfl) (fun b hS => ⟨by omega, hS.2⟩))
          replace HB7 : Hid (Below w.heap.size w w8) := Lib.hid (HB7.out.trans (hb8.mono HB7.out.size))
          replace HHF := Lib.hid (HHF.out.below hb8)
          have HFU : Hid (BackInv us P n c2 g w.heap.size (k + 1) (w8.setCell ⟨g, k * 8 + 7, none⟩ (.slice B yn bc))) := Lib.hid (by
            have := HHF.out.full (c' := bc) hlt HIN.out
            rwa [HYN.out] at this)
          have hfz : w8.frozen? ⟨g, k * 8 + 7, none⟩ = false := by obtain ⟨_, ho, _⟩ := HHF.out; exact ho.free _
          obtain ⟨v7, hcl⟩ : ∃ v, w8.cell? ⟨g, k * 8 + 7, none⟩ = some v := by obtain ⟨_, ho, _⟩ := HHF.out; exact ⟨_, ho.cell (by omega)⟩
          clear hin hb8 HIN HHF HCW e0 e1 e2 HH7
          go_wp2_with fail
          have HB9 : Hid (Below w.heap.size w (w8.setCell ⟨g, k * 8 + 7, none⟩ (.slice B yn bc))) := Lib.hid (Below.setCell HB7.out hgb _)
          go_roundw
          case rel => exact ⟨k + 1, by omega, by go_num, HB9, HFU⟩
          case measure => simp [intOf]; omega
        · have hkn : k = n := by omega
          subst hkn
          have hdd : decide ((k : Int) < k) = false := by rw [decide_eq_false_iff_not]; omega
          go_wp2_with fail
          go_ret
          exact ⟨_, c2, rfl, clone_backs HBIG.out HA.out (fun b hb => ⟨by omega, hb.2⟩), HB.out⟩
end Go.Proofs.YtlbkhhbbkedhkaaGreatDoor
namespace Go.Proofs.YtlbkhhbbkedhkaaGreatDoor
open Go.RowKit
set_option linter.unusedVariables false

def CloneC (b : Cl) (w : World) (r : Ending) (w' : World) : Prop := ∃ a : WA, r = .returned (.agg (b.cells a)) ∧ ClIn (fun b => w.heap.size ≤ b ∧ b < w'.heap.size) w' b a ∧ Below w.heap.size w w'
theorem Has.there' {w : World} {g o m : Nat} {cs : Array Value} {t : TypeId} (h : Has w g cs t) (ho : o + m ≤ cs.size) : w.there g o m := fun j hj => ⟨by rw [h.cell, Array.getElem?_eq_getElem (by omega)]; rfl, h.free _⟩
theorem Has.put6 {w : World} {g : Nat} {kd nm x0 x1 x2 x3 x4 x5 sl am y0 y1 y2 y3 y4 y5 : Value} {t : TypeId} (h : Has w g #[kd, nm, x0, x1, x2, x3, x4, x5, sl, am] t) : Has (w.setCells g 2 [y0, y1, y2, y3, y4, y5]) g #[kd, nm, y0, y1, y2, y3, y4, y5, sl, am] t :=
  (((((h.put 2 y0).put 3 y1).put 4 y2).put 5 y3).put 6 y4).put 7 y5

set_option maxRecDepth 100000 in
set_option maxHeartbeats 8000000 in
theorem cloneclause_any (b : Cl) (a : WA) (w : World) (h : ClAt w w.heap.size b a) (hf : b.e.all fewQ ∧ fewL b.n b.us) : Calls Tryz.prog 29 #[.agg (b.cells a)] w (CloneC b w) := by
  obtain ⟨x0, x1, x2, x3, x4, x5, hcs, hce, hc1⟩ := Cl.cells_ex b a
  have HXI := Lib.hid ex_info
  have HCI := Lib.hid cl_info
  have HCE : Hid (∀ W, Below w.heap.size w W → Calls Tryz.prog 49 #[.agg #[x0, x1, x2, x3, x4, x5]] W (CloneP b.e W)) := Lib.hid fun W hb => by
    rw [hce]
    exact cloneexpr_any b.e a.ea W (h.1.below hb hb.size) hf.1
  have HCW : Hid (∀ W, Below w.heap.size w W → Calls Tryz.prog 50 #[.slice a.A b.n a.c] W (CloneW b.n b.us W)) := Lib.hid fun W hb =>
    clonebacks_any (.mk b.name b.e b.n b.us) a.A a.c W (h.2.below hb hb.size) hf.2
  have HFIN : Hid (∀ (a' : EA) (B : Option Addr) (bc : Nat) (W : World), ExIn (fun b => w.heap.size ≤ b ∧ b < W.heap.size) W b.e a' → WbsIn (fun b => w.heap.size ≤ b ∧ b < W.heap.size) W B b.n b.us → Below w.heap.size w W → ∀ y0 y1 y2 y3 y4 y5, b.e.cells a' = #[y0, y1, y2, y3, y4, y5] → CloneC b w (.returned (.agg #[.int .i64 b.kind, .string b.name, y0, y1, y2, y3, y4, y5, .slice B b.n bc, .int .i64 b.amt])) W) := Lib.hid fun a' B bc W h1 h2 h3 y0 y1 y2 y3 y4 y5 hy =>
    ⟨⟨a', B, bc⟩, by
      have := Ex.cells_is b.e a'
      rw [hy] at this
      unfold Cl.cells
      obtain ⟨e0, e1, e2, e3, e4, e5⟩ : b.e.cell a' 0 = y0 ∧ b.e.cell a' 1 = y1 ∧ b.e.cell a' 2 = y2 ∧ b.e.cell a' 3 = y3 ∧ b.e.cell a' 4 = y4 ∧ b.e.cell a' 5 = y5 := by simpa using this
      simp only [e0, e1, e2, e3, e4, e5], ⟨h1, h2⟩, h3⟩
  have HYE : Hid (∀ a' : EA, ∃ y0 y1 y2 y3 y4 y5, b.e.cells a' = #[y0, y1, y2, y3, y4, y5]) := Lib.hid fun a' => ⟨_, _, _, _, _, _, (Ex.cells_is b.e a').symm⟩
  have HY1 : Hid (∀ a' : EA, (b.e.cells a').all (·.oneCell') = true) := Lib.hid fun a' => by rw [← Array.all_toList]; exact Ex.cells_one _ _
  obtain ⟨kd, nm, ye, yn, yu, am⟩ := b
  obtain ⟨pe, pA, pc⟩ := a
  rw [hcs]
  simp only at HCW HCE HFIN HYE HY1 ⊢
  clear h hf hcs hc1 hce
  obtain ⟨G, hG⟩ : ∃ G, w.heap.size = G := ⟨_, rfl⟩
  have HGE := Lib.hid hG
  go_enter Tryz.func29, Tryz.ntmps29
  go_upto_region 1 with (fail)
  have HB : Hid (Below w.heap.size w ((w.alloc (.cells #[.int .i64 kd, .string nm, x0, x1, x2, x3, x4, x5, .slice pA yn pc, .int .i64 am] 46)).alloc (.cells #[.int .i64 0, .string { data := #[] }, .int .i64 0, .string { data := #[] }, .slice none 0 0, .int .i64 0, .int .i64 0, .slice none 0 0, .slice none 0 0, .int .i64 0] 46))) := Lib.hid (below_two _ _ _)
  have HE := Lib.hid ((Has.new w #[.int .i64 kd, .string nm, x0, x1, x2, x3, x4, x5, .slice pA yn pc, .int .i64 am] 46).alloc (.cells #[.int .i64 0, .string { data := #[] }, .int .i64 0, .string { data := #[] }, .slice none 0 0, .int .i64 0, .int .i64 0, .slice none 0 0, .slice none 0 0, .int .i64 0] 46))
  have HR := Lib.hid (Has.new' (w.alloc (.cells #[.int .i64 kd, .string nm, x0, x1, x2, x3, x4, x5, .slice pA yn pc, .int .i64 am] 46)) (w.heap.size + 1) #[.int .i64 0, .string { data := #[] }, .int .i64 0, .string { data := #[] }, .slice none 0 0, .int .i64 0, .int .i64 0, .slice none 0 0, .slice none 0 0, .int .i64 0] 46 (by simp))
  obtain ⟨W, hW⟩ : ∃ W, (w.alloc (.cells #[.int .i64 kd, .string nm, x0, x1, x2, x3, x4, x5, .slice pA yn pc, .int .i64 am] 46)).alloc (.cells #[.int .i64 0, .string { data := #[] }, .int .i64 0, .string { data := #[] }, .slice none 0 0, .int .i64 0, .int .i64 0, .slice none 0 0, .slice none 0 0, .int .i64 0] 46) = W := ⟨_, rfl⟩
  rw [hW] at HB HE HR ⊢
  clear hW
  try rw [hG] at HE HR
  try rw [hG]
  clear hG
  have hGB : w.heap.size ≤ G := by have := HGE.out; omega
  obtain ⟨e0, e1, e2⟩ := HE.out.rules
  have hRl := HR.out.lt
  have HRX : Hid (W.rangeAt G 2 [x0, x1, x2, x3, x4, x5]) := Lib.hid (range_six (by rw [HE.out.cell]; rfl) (by rw [HE.out.cell]; rfl) (by rw [HE.out.cell]; rfl) (by rw [HE.out.cell]; rfl) (by rw [HE.out.cell]; rfl) (by rw [HE.out.cell]; rfl))
  go_wp2_with ((refine wpList_load_midw ?_ 43 (.tmp 3) ?_ G 2 ?_ _ _ HRX.out Tryz.underlying43 ?_ HXI.out ?_; rfl; rfl; rfl; rfl))
  refine (HCE.out _ HB.out).mono ?_
  rintro r w1 ⟨a', rfl, hin, hb1⟩
  have HIN : Hid (ExIn (fun b => G + 1 < b ∧ b < w1.heap.size) w1 ye a') := Lib.hid (ExIn.keep (fun _ _ _ => rfl) (fun b hS => ⟨by omega, hS.2⟩) _ _ hin)
  replace HE := Lib.hid (HE.out.below hb1 HE.out.lt)
  replace HR := Lib.hid (HR.out.below hb1 HR.out.lt)
  replace HB : Hid (Below w.heap.size w w1) := Lib.hid (HB.out.trans (hb1.mono HB.out.size))
  obtain ⟨y0, y1, y2, y3, y4, y5, hy⟩ := HYE.out a'
  have HY := Lib.hid hy
  have HOC := Lib.hid (HY1.out a')
  rw [hy] at HOC ⊢
  have HTH : Hid (w1.there G 2 6) := Lib.hid (HE.out.there' (by simp))
  clear hin hb1 HRX e0 e1 e2 hy hRl HCE
  go_upto_region 2 with ((refine wpList_store_mid ?_ 43 (.tmp 6) (.tmp 5) ?_ G 2 #[y0, y1, y2, y3, y4, y5] ?_ ?_ HTH.out HXI.out HOC.out ?_; rfl; rfl; rfl; rfl))
  have hl2 := leaves_setCells G [y0, y1, y2, y3, y4, y5] 2 w1
  have HB2 : Hid (Below w.heap.size w (w1.setCells G 2 [y0, y1, y2, y3, y4, y5])) := Lib.hid (HB.out.trans (hl2.below (fun k hk => by omega) HB.out.size))
  have HE2 : Hid (Has (w1.setCells G 2 [y0, y1, y2, y3, y4, y5]) G #[.int .i64 kd, .string nm, y0, y1, y2, y3, y4, y5, .slice pA yn pc, .int .i64 am] 46) := Lib.hid HE.out.put6
  have HR2 := Lib.hid (HR.out.leaves hl2 (by omega))
  have HIN2 : Hid (ExIn (fun b => G + 1 < b ∧ b < w1.heap.size) (w1.setCells G 2 [y0, y1, y2, y3, y4, y5]) ye a') := Lib.hid (ExIn.keep (fun b o hS => World.cell?_setCells_out G _ _ _ _ (fun e => by have e : b = G := e; omega)) (fun b hS => hS) _ _ HIN.out)
  have hs2 : (w1.setCells G 2 [y0, y1, y2, y3, y4, y5]).heap.size = w1.heap.size := setCells_size _ _ _ _
  obtain ⟨w2, hw2⟩ : ∃ z, w1.setCells G 2 [y0, y1, y2, y3, y4, y5] = z := ⟨_, rfl⟩
  rw [hw2] at HB2 HE2 HR2 HIN2 hs2
  rw [← hs2] at HIN2
  have hw2' : w1.setCells G 2 (#[y0, y1, y2, y3, y4, y5] : Array Value).toList = w2 := hw2
  rw [hw2']
  clear hl2 hw2 hw2' HB HE HR HIN HTH HOC hs2
  obtain ⟨e0, e1, e2⟩ := HE2.out.rules
  go_wp2_with fail
  refine (HCW.out _ HB2.out).mono ?_
  rintro r w3 ⟨B, bc, rfl, hin, hb3⟩
  have hRl := HR2.out.lt
  have HWI : Hid (WbsIn (fun b => G + 1 < b ∧ b < w3.heap.size) w3 B yn yu) := Lib.hid (hin.keep (fun _ _ _ => rfl) (fun b hS => ⟨by omega, hS.2⟩))
  have HIN3 : Hid (ExIn (fun b => G + 1 < b ∧ b < w3.heap.size) w3 ye a') := Lib.hid (ExIn.keep (fun b o hS => hb3.cell (p := ⟨b, o, none⟩) hS.2) (fun b hS => ⟨hS.1, by have := hb3.size; omega⟩) _ _ HIN2.out)
  replace HE2 := Lib.hid (HE2.out.below hb3 HE2.out.lt)
  replace HR2 := Lib.hid (HR2.out.below hb3 HR2.out.lt)
  replace HB2 : Hid (Below w.heap.size w w3) := Lib.hid (HB2.out.trans (hb3.mono HB2.out.size))
  clear hin hb3 HCW HIN2 e0 e1 e2 hRl
  obtain ⟨e0, e1, e2⟩ := HE2.out.rules
  go_upto_region 3 with (fail)
  have HE4 : Hid (Has (w3.setCell ⟨G, 8, none⟩ (.slice B yn bc)) G #[.int .i64 kd, .string nm, y0, y1, y2, y3, y4, y5, .slice B yn bc, .int .i64 am] 46) := Lib.hid (HE2.out.put 8 _)
  have HR4 := Lib.hid (HR2.out.far (p := ⟨G, 8, none⟩) (by simp only; omega) (.slice B yn bc))
  have HB4 : Hid (Below w.heap.size w (w3.setCell ⟨G, 8, none⟩ (.slice B yn bc))) := Lib.hid (Below.setCell HB2.out hGB _)
  have hs4 : (w3.setCell ⟨G, 8, none⟩ (.slice B yn bc)).heap.size = w3.heap.size := by simp
  have HIN4 : Hid (ExIn (fun b => G + 1 < b ∧ b < w3.heap.size) (w3.setCell ⟨G, 8, none⟩ (.slice B yn bc)) ye a') := Lib.hid (ExIn.keep (fun b o hS => World.cell?_setCell_other w3 _ _ _ (fun e => by injection e with e; omega)) (fun b hS => hS) _ _ HIN3.out)
  have HWI4 : Hid (WbsIn (fun b => G + 1 < b ∧ b < w3.heap.size) (w3.setCell ⟨G, 8, none⟩ (.slice B yn bc)) B yn yu) := Lib.hid (HWI.out.keep (fun b o hS => World.cell?_setCell_other w3 _ _ _ (fun e => by injection e with e; omega)) (fun b hS => hS))
  obtain ⟨w4, hw4⟩ : ∃ z, w3.setCell ⟨G, 8, none⟩ (.slice B yn bc) = z := ⟨_, rfl⟩
  rw [hw4] at HE4 HR4 HB4 HIN4 HWI4 hs4 ⊢
  rw [← hs4] at HIN4 HWI4
  clear hw4 hs4 HE2 HR2 HB2 HIN3 HWI e0 e1 e2
  have HC10 : Hid ((#[.int .i64 kd, .string nm, y0, y1, y2, y3, y4, y5, .slice B yn bc, .int .i64 am] : Array Value).toList.all (·.oneCell') = true) := Lib.hid (by
    have h := HY1.out a'
    rw [HY.out, ← Array.all_toList] at h
    simp only [List.all_cons, List.all_nil, Bool.and_true, Bool.and_eq_true] at h ⊢
    exact ⟨rfl, rfl, h.1, h.2.1, h.2.2.1, h.2.2.2.1, h.2.2.2.2.1, h.2.2.2.2.2, rfl, rfl⟩)
  go_wp2_with (first
    | (refine wpList_load_has ?_ 46 (.tmp 1) ?_ G ?_ _ _ _ HE4.out Tryz.underlying46 ?_ HCI.out ?_; rfl; rfl; rfl; rfl)
    | (refine wpList_store_has ?_ 46 (.tmp 2) (.tmp 11) ?_ (G + 1) ?_ #[.int .i64 kd, .string nm, y0, y1, y2, y3, y4, y5, .slice B yn bc, .int .i64 am] ?_ _ _ HR4.out HCI.out ?_ ?_ ?_; rfl; rfl; rfl; rfl; rfl; exact HC10.out; intro w99 hh9 hl9))
  refine bodyPost_ret (results_cell_row rfl _ _ (G + 1) _ _ _ _ ?_ hh9 Tryz.underlying46 rfl HCI.out) rfl ?_
  · rfl
  · have hs9 := hl9.size
    have hk9 : ∀ b o, (G + 1 < b ∧ b < w4.heap.size) → w99.cell? ⟨b, o, none⟩ = w4.cell? ⟨b, o, none⟩ := fun b o hS => World.cell?_of_block (w := w4) (hl9.block b hS.2 (by omega))
    exact HFIN.out a' B bc w99 (ExIn.keep hk9 (fun b hS => ⟨by omega, by omega⟩) _ _ HIN4.out) (HWI4.out.keep hk9 (fun b hS => ⟨by omega, by omega⟩)) (HB4.out.trans (hl9.below (fun k hk => by omega) HB4.out.size)) y0 y1 y2 y3 y4 y5 HY.out
end Go.Proofs.YtlbkhhbbkedhkaaGreatDoor
namespace Go.Proofs.YtlbkhhbbkedhkaaGreatDoor
open Go.RowKit
set_option linter.unusedVariables false

/-- the first clause with a name -/
def findI (L : List Cl) (s : ByteArray) : Option Nat := L.findIdx? fun c => c.name.toList == s.toList
theorem findI_some {L : List Cl} {s : ByteArray} {k : Nat} (hk : k < L.length) (h1 : L[k].name = s) (h2 : ∀ j (hj : j < k), L[j].name ≠ s) : findI L s = some k := by
  unfold findI
  rw [List.findIdx?_eq_some_iff_getElem]
  exact ⟨hk, by rw [h1]; simp, fun j hj => by simpa using fun c => h2 j hj (bytes_eq.1 (by rw [c]; simp))⟩
theorem findI_none {L : List Cl} {s : ByteArray} (h : ∀ j (hj : j < L.length), L[j].name ≠ s) : findI L s = none := by
  unfold findI
  rw [List.findIdx?_eq_none_iff]
  intro c hc
  obtain ⟨j, hj, rfl⟩ := List.getElem_of_mem hc
  simpa using fun c => h j hj (bytes_eq.1 (by rw [c]; simp))
theorem findI_lt {L : List Cl} {s : ByteArray} {k : Nat} (h : findI L s = some k) : k < L.length := by
  unfold findI at h
  rw [List.findIdx?_eq_some_iff_getElem] at h
  exact h.1

/-- the names rm 0 .. are removed -/
def remL (rm : Nat → ByteArray) : Nat → List Cl → Except Int (List Cl)
  | 0, L => .ok L
  | k + 1, L => match remL rm k L with
    | .error e => .error e
    | .ok M => match findI M (rm k) with
      | none => .error 7
      | some i => .ok (M.eraseIdx i)
/-- the clauses cs 0 .. are added -/
def addC (cs : Nat → Cl) : Nat → List Cl → Except Int (List Cl)
  | 0, L => .ok L
  | k + 1, L => match addC cs k L with
    | .error e => .error e
    | .ok M => match findI M (cs k).name with
      | some _ => .error 8
      | none => .ok (M ++ [cs k])
/-- an endorsement -/
def endL (L : List Cl) (e : En) : Except Int (List Cl) := match remL e.rm e.nr L with
  | .error x => .error x
  | .ok M => match addC e.cs e.nc M with
    | .error x => .error x
    | .ok N => if N.length > 100 then .error 4 else .ok N
/-- the first k endorsements, of which those with act have an effect -/
def foldE (es : Nat → En) (act : Nat → Bool) : Nat → List Cl → Except Int (List Cl)
  | 0, L => .ok L
  | k + 1, L => match foldE es act k L with
    | .error e => .error e
    | .ok M => if act k = true then endL M (es k) else .ok M
def listC (n : Nat) (cs : Nat → Cl) : List Cl := (List.range n).map cs
def distN (n : Nat) (cs : Nat → Cl) : Prop := ∀ i, i < n → ∀ j, j < i → (cs j).name ≠ (cs i).name
open Classical in
noncomputable def infL (x : Wr) (act : Nat → Bool) : Except Int (List Cl) := if distN x.nc x.cs then foldE x.es act x.ne (listC x.nc x.cs) else .error 8

theorem foldE_congr {es : Nat → En} {a b : Nat → Bool} {L : List Cl} : ∀ {k : Nat}, (∀ i, i < k → a i = b i) → foldE es a k L = foldE es b k L
  | 0, _ => rfl
  | k + 1, h => by
    rw [foldE, foldE, foldE_congr (k := k) fun i hi => h i (by omega), h k (by omega)]
theorem infL_congr {x : Wr} {a b : Nat → Bool} (h : ∀ i, i < x.ne → a i = b i) : infL x a = infL x b := by
  unfold infL
  rw [foldE_congr h]

/-- lists in memory: a clause and its addresses -/
abbrev ZL := List (Cl × WA)
def zF (Z : ZL) (j : Nat) : Value := match Z[j / 10]? with
  | some z => z.1.cell z.2 (j % 10)
  | none => undef
theorem zF_at {Z : ZL} {i j : Nat} (hi : i < Z.length) (hj : j < 10) : zF Z (i * 10 + j) = Z[i].1.cell Z[i].2 j := by
  unfold zF
  rw [(at_div (by omega) hj).1, (at_div (by omega) hj).2, List.getElem?_eq_getElem hi]
theorem Cl.cell_one (b : Cl) (a : WA) (k : Nat) : (b.cell a k).oneCell' = true := by
  match k with
  | 0 | 1 | 8 | 9 => rfl
  | 2 => exact Ex.cell_one b.e a.ea 0
  | 3 => exact Ex.cell_one b.e a.ea 1
  | 4 => exact Ex.cell_one b.e a.ea 2
  | 5 => exact Ex.cell_one b.e a.ea 3
  | 6 => exact Ex.cell_one b.e a.ea 4
  | 7 => exact Ex.cell_one b.e a.ea 5
  | k + 10 => exact Ex.cell_one b.e a.ea (k + 8)
theorem zF_one {Z : ZL} {j : Nat} (hj : j < Z.length * 10) : (zF Z j).oneCell' = true := by
  unfold zF
  rw [List.getElem?_eq_getElem (by omega)]
  exact Cl.cell_one _ _ _
theorem zF_range {Z : ZL} {w : World} {base g cap n i : Nat} {e : TypeId} (h : Own w base g n cap 10 e (zF Z)) (hn : Z.length = n) (hi : i < n) : w.rangeAt g (i * 10) ((Z[i]'(by omega)).1.cells (Z[i]'(by omega)).2).toList :=
  h.range (by rfl) hi fun j hj => by rw [zF_at (by omega) hj]; exact Cl.cells_get _ _ _ hj
/-- the same element behind a cut or an addition -/
theorem zF_eq {Z Y : ZL} {j : Nat} (h : Z[j / 10]? = Y[j / 10]?) : zF Z j = zF Y j := by unfold zF; rw [h]
theorem zF_shift {Z Y : ZL} {j k : Nat} (h : Z[j / 10]? = Y[k / 10]?) (hm : j % 10 = k % 10) : zF Z j = zF Y k := by unfold zF; rw [h, hm]
def zList (n : Nat) (cs : Nat → Cl) (P : Nat → WA) : ZL := (List.range n).map fun i => (cs i, P i)
theorem zList_length (n : Nat) (cs : Nat → Cl) (P : Nat → WA) : (zList n cs P).length = n := by simp [zList]
theorem zList_get (n : Nat) (cs : Nat → Cl) (P : Nat → WA) {i : Nat} (h : i < n) : (zList n cs P)[i]? = some (cs i, P i) := by simp [zList, h]
theorem zF_zList {n : Nat} {cs : Nat → Cl} {P : Nat → WA} {j : Nat} (h : j < n * 10) : zF (zList n cs P) j = (cs (j / 10)).cell (P (j / 10)) (j % 10) := by
  unfold zF
  rw [zList_get n cs P (by omega)]
theorem zList_fst (n : Nat) (cs : Nat → Cl) (P : Nat → WA) : (zList n cs P).map Prod.fst = listC n cs := by
  simp [zList, listC, List.map_map, Function.comp_def]
end Go.Proofs.YtlbkhhbbkedhkaaGreatDoor
namespace Go.Proofs.YtlbkhhbbkedhkaaGreatDoor
open Go.RowKit
set_option linter.unusedVariables false

/-- what Find returns -/
def FindPost (L : List Cl) (s : ByteArray) (w : World) (r : Ending) (w' : World) : Prop :=
  Below w.heap.size w w' ∧ ((∃ k : Nat, r = .returned (.tuple #[.int .i64 k, .bool true]) ∧ findI L s = some k) ∨ (r = .returned (.tuple #[.int .i64 0, .bool false]) ∧ findI L s = none))

set_option maxRecDepth 100000 in
set_option maxHeartbeats 4000000 in
theorem find_any (A : Option Addr) (c : Nat) (Z : ZL) (n : Nat) (s : ByteArray) (w : World) (hn : Z.length = n) (hb : n ≤ 100000) (h : Cells w w.heap.size A (n * 10) (zF Z)) :
    Calls Tryz.prog 26 #[.slice A n c, .string s] w (FindPost (Z.map Prod.fst) s w) := by
  have HX := Lib.hid h
  have HN := Lib.hid hn
  have HCI := Lib.hid cl_info
  obtain ⟨L, hL⟩ : ∃ L, Z.map Prod.fst = L := ⟨_, rfl⟩
  have HLN : Hid (L.length = n) := Lib.hid (by rw [← hL, List.length_map]; exact hn)
  have HLG : Hid (∀ k, k < n → ∀ (hz : k < Z.length) (hl : k < L.length), L[k] = Z[k].1) := Lib.hid fun k hk hz hl => by subst hL; simp
  rw [hL]
  clear h hn hL
  go_enter Tryz.func26, Tryz.ntmps26
  go_wp2_with fail
  go_loopw [6, 10] (fun ix i wr => ∃ k : Nat, k ≤ n ∧ i = .int .i64 k ∧ Hid (Below w.heap.size w wr) ∧ Hid (∀ j (hj : j < L.length), j < k → L[j].name ≠ s)) (fun _ i _ => n - (intOf i).toNat)
  case atStart => exact ⟨0, Nat.zero_le _, rfl, Lib.hid (Below.refl _ _), Lib.hid fun j hj h => by omega⟩
  case round =>
    obtain ⟨k, hk, rfl, HB, HA⟩ := hrel
    by_cases hlt : k < n
    · have hkz : k < Z.length := by rw [HN.out]; exact hlt
      have hkl : k < L.length := by rw [HLN.out]; exact hlt
      obtain ⟨bb, o, hAa, hbb, hcc⟩ := Cells.plain HX.out (by omega)
      subst hAa
      have hrg : wr.rangeAt bb (o + k * 10) (Z[k].1.cells Z[k].2).toList := fun j v hj => by
        have h10 : j < 10 := by
          have : (Z[k].1.cells Z[k].2).toList.length = 10 := rfl
          rw [← this]
          exact (List.getElem?_eq_some_iff.1 hj).1
        rw [HB.out.cell (p := ⟨bb, o + k * 10 + j, none⟩) hbb, Nat.add_assoc, hcc (k * 10 + j) (by omega), zF_at hkz h10, ← Cl.cells_get _ _ _ h10, hj]
      have HLK : Hid (L[k].name = Z[k].1.name) := Lib.hid (by rw [HLG.out k hlt hkz hkl])
      obtain ⟨x0, x1, x2, x3, x4, x5, hcs, _, hc1⟩ := Cl.cells_ex Z[k].1 Z[k].2
      rw [hcs] at hrg
      have HRG := Lib.hid hrg
      have HC1 := Lib.hid hc1
      obtain ⟨⟨⟨kd, nm, ye, yn, yu, am⟩, ⟨pe, pA, pc⟩⟩, hz⟩ : ∃ z, Z[k] = z := ⟨_, rfl⟩
      rw [hz] at HRG HC1 HLK
      simp only at HRG HC1 HLK
      have hk0 : (0 : Int) ≤ k := by omega
      have hk1 : (k : Int) < n := by omega
      clear hrg hcs hc1 hcc hz
      by_cases he : nm = s
      · have he' := bytes_eq.2 he
        have HR : Hid (findI L s = some k) := Lib.hid (findI_some hkl (by rw [HLK.out, he]) fun j hj => HA.out j (by omega) hj)
        clear he
        go_wp2_with (first
          | (refine wpList_load_mid ?_ 46 (.tmp 13) ?_ bb (o + k * 10) ?_ _ _ HRG.out Tryz.underlying46 ?_ HCI.out ?_; rfl; rfl; rfl; rfl)
          | (refine wpList_store_has ?_ 46 (.tmp 7) (.tmp 14) ?_ wr.heap.size ?_ #[.int .i64 kd, .string nm, x0, x1, x2, x3, x4, x5, .slice pA yn pc, .int .i64 am] ?_ _ _ (Has.new wr _ _) HCI.out ?_ ?_ ?_; rfl; rfl; rfl; rfl; rfl; exact HC1.out; intro w5 hh5 hl5; (obtain ⟨e0, e1, e2⟩ := Has.rules hh5)))
        have hb5 : Below wr.heap.size wr w5 := ((Below.refl _ _).alloc (Nat.le_refl _) _).trans (hl5.below (fun k hk => by omega) (by simp))
        go_ret2
        exact ⟨HB.out.trans (hb5.mono HB.out.size), .inl ⟨k, rfl, HR.out⟩⟩
      · have he' := bytes_ne he
        go_wp2_with (first
          | (refine wpList_load_mid ?_ 46 (.tmp 13) ?_ bb (o + k * 10) ?_ _ _ HRG.out Tryz.underlying46 ?_ HCI.out ?_; rfl; rfl; rfl; rfl)
          | (refine wpList_store_has ?_ 46 (.tmp 7) (.tmp 14) ?_ wr.heap.size ?_ #[.int .i64 kd, .string nm, x0, x1, x2, x3, x4, x5, .slice pA yn pc, .int .i64 am] ?_ _ _ (Has.new wr _ _) HCI.out ?_ ?_ ?_; rfl; rfl; rfl; rfl; rfl; exact HC1.out; intro w5 hh5 hl5; (obtain ⟨e0, e1, e2⟩ := Has.rules hh5)))
        have hb5 : Below wr.heap.size wr w5 := ((Below.refl _ _).alloc (Nat.le_refl _) _).trans (hl5.below (fun k hk => by omega) (by simp))
        have HB5 : Hid (Below w.heap.size w w5) := Lib.hid (HB.out.trans (hb5.mono HB.out.size))
        have HE := Lib.hid he
        clear hb5 hh5 hl5 e0 e1 e2 HB he
        go_roundw
        case rel => exact ⟨k + 1, by omega, by go_num, HB5, Lib.hid fun j hj h => by
          by_cases e : j = k
          · subst e; rw [HLK.out]; exact HE.out
          · exact HA.out j hj (by omega)⟩
        case measure => simp [intOf]; omega
    · have hkn : k = n := by omega
      subst hkn
      have hdd : decide ((k : Int) < k) = false := by rw [decide_eq_false_iff_not]; omega
      go_wp2_with fail
      go_ret2
      exact ⟨HB.out, .inr ⟨rfl, findI_none fun j hj => HA.out j hj (by rw [← HLN.out]; exact hj)⟩⟩
end Go.Proofs.YtlbkhhbbkedhkaaGreatDoor
