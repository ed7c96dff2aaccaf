/- Deck.Wording. Printed by gen/wgi.py. -/
import Derived.Test.YtlbkhhbbkedhkaaGreatDoorMc01
namespace Go.Proofs.YtlbkhhbbkedhkaaGreatDoor
open Go.RowKit
set_option linter.unusedVariables false
set_option linter.unusedSimpArgs false

theorem conv1' (w : World) (g : Nat) (x : UInt8) (h : w.cell? ⟨g, 0, none⟩ = some (.int .u8 (x.toNat : Int))) : (convert 83 9 (.slice (some ⟨g, 0, none⟩) 1 1)).run Tryz.prog w = .ok (.string ⟨#[x]⟩) w :=
  run_convert_bytes_back (P := Tryz.prog) _ _ _ 5 _ 1 [x] Tryz.underlying83 Tryz.underlying5 Tryz.underlying9 fun j hj => by
    rw [Addr.add_mid]
    match j, hj with
    | 0, _ => exact h

theorem en_all : (Tryz.prog.info? 49).map (fun i => (i.zero, i.size, i.bytes)) = some (some (.agg #[.int .i64 0, .int .i64 0, .slice none 0 0, .slice none 0 0]), 4, 64) := by kernel_rfl
theorem wr_info : (Tryz.prog.info? 25).map (·.size) = some 2 := by kernel_rfl
set_option maxRecDepth 100000 in
set_option maxHeartbeats 8000000 in
theorem wording_made (b : Nat) (A : Option Addr) (n c : Nat) (ats : Nat → Att) (N : Nat) (sd : Bool) (w : World) (hd : IsDeck w b) (hs : SchIn (off b w) w A n ats) (hN : N ≤ 6) :
    Calls Tryz.prog 18 #[.pointer (some ⟨b, 0, none⟩), .agg #[.slice A n c], .int .i64 N, .bool sd] w (WordP b w) := by
  have HCM : Hid (∀ (p : ByteArray) (M : Nat) (W : World), prefP p → M ≤ 6 → IsDeck W b → Keeps b w W → Calls Tryz.prog 16 #[.pointer (some ⟨b, 0, none⟩), .agg #[.slice A n c], .int .i64 M, .string p] W (MadeL p M b W)) := Lib.hid fun p M W hp hM hd' hk => clauses_made b A n c ats p M W hd' (hs.keeps hk) hp hM
  have HWE : Hid (∀ (x : Wr) (Al E : Option Addr) (ca ce : Nat) (W : World), Keeps b w W → WrAt W W.heap.size x Al E → Calls Tryz.prog 39 #[.agg #[.slice A n c], .agg #[.slice Al x.nc ca, .slice E x.ne ce]] W (ThreeI W)) := Lib.hid fun x Al E ca ce W hk hx => wordingerror_any A c n ats x Al E ca ce W ((hs.keeps hk).keep (fun _ _ _ => rfl) (fun i hi => hi.2)) hx
  have HD0 := Lib.hid hd
  have hb := hd.lt
  clear hd hs
  obtain ⟨G, hG⟩ : ∃ G, w.heap.size = G := ⟨_, rfl⟩
  have HGE := Lib.hid hG
  have HNI := Lib.hid en_info
  go_enter Tryz.func18, Tryz.ntmps18
  go_upto_region 1 with (fail)
  have HK : Hid (Keeps b w ((w.alloc (.cells #[.slice A n c] 56)).alloc (.cells #[.slice none 0 0, .slice none 0 0] 25))) := Lib.hid (((Keeps.refl b w).alloc _).alloc _)
  have HE := Lib.hid ((Has.new w #[.slice A n c] 56).alloc (.cells #[.slice none 0 0, .slice none 0 0] 25))
  have HR := Lib.hid (Has.new' (w.alloc (.cells #[.slice A n c] 56)) (G + 1) #[.slice none 0 0, .slice none 0 0] 25 (by simp; omega))
  have HD : Hid (IsDeck ((w.alloc (.cells #[.slice A n c] 56)).alloc (.cells #[.slice none 0 0, .slice none 0 0] 25)) b) := Lib.hid ((HD0.out.alloc _).alloc _)
  obtain ⟨W, hW⟩ : ∃ W, (w.alloc (.cells #[.slice A n c] 56)).alloc (.cells #[.slice none 0 0, .slice none 0 0] 25) = W := ⟨_, rfl⟩
  rw [hW] at HE HK HD HR ⊢
  rw [hG] at HE hb
  try rw [hG]
  clear hW hG HD0
  have hGw : w.heap.size = G := HGE.out
  obtain ⟨e0, e1, e2⟩ := HE.out.rules
  go_wp2_with fail
  refine (HCM.out _ N _ (.inl rfl) hN HD.out HK.out).mono ?_
  rintro r w1 ⟨Al, m, cl, zs, κ, rfl, hm, hl, hq, hu, hk, hd⟩
  have hm7 : m ≤ 7 := by omega
  have HU : Hid (upN ⟨#[99, 45]⟩ 7 m zs κ) := Lib.hid (hu.more (by omega))
  have hWG : G + 1 < W.heap.size := HR.out.lt
  have hs1 := hk.size
  replace HK := Lib.hid (HK.out.trans hk)
  replace HE := Lib.hid (HE.out.keeps hk (by omega))
  replace HR := Lib.hid (HR.out.keeps hk (by omega))
  replace HD := Lib.hid hd
  clear e0 e1 e2 hu hd hk
  go_upto_region 2 with (fail)
  have HX : Hid (WrdI (tS G w1.heap.size (w1.alloc (.cells #[.slice Al m cl, .slice none 0 0] 25))) (w1.alloc (.cells #[.slice Al m cl, .slice none 0 0] 25)) Al none m 0 zs fun _ => (⟨0, 0, 0, fun _ => ByteArray.empty, 0, fun _ => (noZ 0).1⟩, ⟨none, 0, none, 0⟩)) := Lib.hid
    ⟨hl.keep (fun b o hS => World.cell?_alloc_old w1 _ _ (show b ≠ w1.heap.size by omega)) (fun b hS => ⟨by omega, by omega, by simp; omega⟩), fun i hi => clQ_moves _ _ _ _ _ (hq i hi) (fun b o hS => World.cell?_alloc_old w1 _ _ (show b ≠ w1.heap.size by omega)) (fun b hS => ⟨by omega, by omega, by simp; omega⟩), by rw [Nat.zero_mul]; exact CellsS.zero, fun i hi => by omega⟩
  have HO := Lib.hid (Has.new w1 #[.slice Al m cl, .slice none 0 0] 25)
  replace HK := Lib.hid (HK.out.alloc (.cells #[.slice Al m cl, .slice none 0 0] 25))
  replace HD := Lib.hid (HD.out.alloc (.cells #[.slice Al m cl, .slice none 0 0] 25))
  replace HE := Lib.hid (HE.out.alloc (.cells #[.slice Al m cl, .slice none 0 0] 25))
  replace HR := Lib.hid (HR.out.alloc (.cells #[.slice Al m cl, .slice none 0 0] 25))
  obtain ⟨H, hH⟩ : ∃ H, w1.heap.size = H := ⟨_, rfl⟩
  obtain ⟨w2, hw2⟩ : ∃ H, w1.alloc (.cells #[.slice Al m cl, .slice none 0 0] 25) = H := ⟨_, rfl⟩
  rw [hw2] at HX HO HK HD HE HR ⊢
  rw [hH] at HX HO hs1 ⊢
  have hGH : G + 1 < H := by omega
  clear hw2 hH hl hq hs1 hWG
  go_wp2_with fail
  refine (next_any b 3 _ HD.out (by omega) (by omega)).mono ?_
  rintro r w3 ⟨v, rfl, v0, v1, hk, hd⟩
  obtain ⟨k0, hk0⟩ : ∃ j : Nat, v = j := ⟨v.toNat, by omega⟩
  subst hk0
  replace HK := Lib.hid (HK.out.trans hk)
  replace HD := Lib.hid hd
  replace HE := Lib.hid (HE.out.keeps hk (by omega))
  replace HR := Lib.hid (HR.out.keeps hk (by omega))
  replace HO := Lib.hid (HO.out.keeps hk (by omega))
  replace HX : Hid (WrdI (tS G H w3) w3 Al none m 0 zs _) := Lib.hid (HX.out.keep (fun i o hi => World.cell?_of_block (w := w2) (hk.block i hi.2.2 (by have := hi.1; omega))) (tS.up hk.size))
  clear hk hd
  go_wp2_with fail
  go_loopw [10] (fun kx wr => ∃ (k ne : Nat) (Ae : Option Addr) (ce : Nat) (ys : Nat → En × NA), (k + ne ≤ 2 ∧ ne ≤ ce ∧ (ne = 0 → Ae = none ∧ ce = 0)) ∧ kx = .int .i64 k ∧ Hid (WoSt b G H w A n c Al m cl Ae ne ce zs ys wr) ∧ Hid (IsDeck wr b)) (fun kx _ => (intOf kx).toNat)
  case atStart => exact ⟨k0, 0, none, 0, _, ⟨by omega, Nat.le_refl _, fun _ => ⟨rfl, rfl⟩⟩, rfl, Lib.hid ⟨HE.out, HR.out, HO.out, HX.out, HK.out, hb, hGH⟩, HD⟩
  case round =>
    clear HE HR HO HX HK HD v0 v1
    obtain ⟨k, ne, Ae, ce, ys, ⟨hkn, hcap, hnil⟩, rfl, HS, HD⟩ := hrel
    have HNL := Lib.hid hnil
    clear hnil
    have hsH : H < wr.heap.size := HS.out.o.lt
    by_cases hlt : 0 < k
    · have hk1 : (0 : Int) < k := by omega
      have hnum : IntKind.i64.wrap ((k : Int) - 1) = ((k - 1 : Nat) : Int) := by rw [IntKind.wrap_i64]; omega
      go_wp2_with fail
      refine (dperiod_any b _ HD.out).mono ?_
      rintro r w4 ⟨⟨f, t, rfl, hf, hft, ht⟩, hk, hd⟩
      have HKK := Lib.hid hk
      have HD4 := Lib.hid hd
      have hs4 := hk.size
      clear hk hd
      have hb4 : b < w4.heap.size := by omega
      go_upto_region 6 with (fail)
      have HP := Lib.hid (Has.new w4 #[.int .i64 f, .int .i64 t] 38)
      have HK5 : Hid (Keeps b wr (w4.alloc (.cells #[.int .i64 f, .int .i64 t] 38))) := Lib.hid (HKK.out.alloc _)
      have HD5 : Hid (IsDeck (w4.alloc (.cells #[.int .i64 f, .int .i64 t] 38)) b) := Lib.hid (HD4.out.alloc _)
      obtain ⟨P, hP⟩ : ∃ P, w4.heap.size = P := ⟨_, rfl⟩
      obtain ⟨w5, hw5⟩ : ∃ z, w4.alloc (.cells #[.int .i64 f, .int .i64 t] 38) = z := ⟨_, rfl⟩
      rw [hw5] at HP HK5 HD5 ⊢
      rw [hP] at HP hs4 hb4 ⊢
      clear hw5 hP HKK HD4
      have hlP : P < w5.heap.size := HP.out.lt
      obtain ⟨p0, p1, p2⟩ := HP.out.rules
      go_upto_region 7 with (fail)
      have HP6 := Lib.hid (HP.out.put 1 (.int .i64 (min t 876599)))
      have HK6 : Hid (Keeps b wr (w5.setCell ⟨P, 1, none⟩ (.int .i64 (min t 876599)))) := Lib.hid (HK5.out.far (by simp only; omega) _)
      have HD6 : Hid (IsDeck (w5.setCell ⟨P, 1, none⟩ (.int .i64 (min t 876599))) b) := Lib.hid (HD5.out.far (by simp only; omega) _)
      obtain ⟨t2, ht2⟩ : ∃ z, min t 876599 = z := ⟨_, rfl⟩
      have htm : t2 ≤ 876599 := by omega
      rw [ht2] at HP6 HK6 HD6 ⊢
      obtain ⟨w6, hw6⟩ : ∃ z, w5.setCell ⟨P, 1, none⟩ (.int .i64 t2) = z := ⟨_, rfl⟩
      rw [hw6] at HP6 HK6 HD6 ⊢
      replace HP6 : Hid (Has w6 P #[.int .i64 f, .int .i64 t2] 38) := HP6
      clear hw6 ht2 HP HK5 HD5 p0 p1 p2 hft ht hlP
      have HS6 := Lib.hid (HS.out.next HK6.out)
      have hlP : P < w6.heap.size := HP6.out.lt
      have hwrP : wr.heap.size ≤ P := hs4
      clear HS HD hs4
      obtain ⟨p0, p1, p2⟩ := HP6.out.rules
      by_cases hft : f < t2
      · go_upto_region 8 with (fail)
        have HSS : Hid (∀ V, Keeps b w6 V → (V.cell? ⟨P, 0, none⟩ = some (.int .i64 f) ∧ V.cell? ⟨P, 1, none⟩ = some (.int .i64 t2)) ∧ V.cell? ⟨G, 0, none⟩ = some (.slice A n c)) := Lib.hid fun V hk => ⟨⟨by rw [(HP6.out.keeps hk (by omega)).cell]; rfl, by rw [(HP6.out.keeps hk (by omega)).cell]; rfl⟩, by rw [(HS6.out.e.keeps hk (by omega)).cell]; rfl⟩
        have hk12 : k = 1 ∨ k = 2 := by omega
        go_cut [12] from 40 to 51 (fun p wx => ∃ (E m2 c2 : Nat) (A2 : Option Addr) (zs2 : Nat → Cl × WA), p = .pointer (some ⟨E, 0, none⟩) ∧ w6.heap.size ≤ E ∧ (1 ≤ m2 ∧ m2 ≤ 3) ∧ Hid (Keeps b w6 wx) ∧ Hid (IsDeck wx b) ∧ Hid (Has wx E #[.int .i64 f, .int .i64 t2, .slice none 0 0, .slice A2 m2 c2] 49) ∧ Hid (CellsS (fun i => w6.heap.size ≤ i ∧ i ≠ E ∧ i < wx.heap.size) wx A2 (m2 * 10) (rowF 10 clC zs2)) ∧ Hid (∀ i, i < m2 → clQ (fun i => w6.heap.size ≤ i ∧ i ≠ E ∧ i < wx.heap.size) wx (zs2 i)))
        case first =>
          have HBB : Hid (Keeps b w6 w6.drew) := Lib.hid (Keeps.refl _ _).drew
          have HDD : Hid (IsDeck w6.drew b) := Lib.hid HD6.out.drew
          obtain ⟨kb, hkb, hcv⟩ : ∃ kb : UInt8, (kb = 49 ∨ kb = 50) ∧ IntKind.u8.wrap (48 + (k : Int)) = (kb.toNat : Int) := by
            rcases hk12 with rfl | rfl
            · exact ⟨49, .inl rfl, by decide⟩
            · exact ⟨50, .inr rfl, by decide⟩
          have HPF : Hid (prefP ({ data := #[101] } ++ ⟨#[kb]⟩ ++ { data := #[45] })) := Lib.hid (by
            rcases hkb with rfl | rfl
            · exact .inr (.inl (by decide))
            · exact .inr (.inr (by decide)))
          have hcv' : IntKind.i64.wrap (48 + (k : Int)) = 48 + (k : Int) := by rw [IntKind.wrap_i64]; omega
          refine wp_region_held_drew (S := fun V => (V.cell? ⟨P, 0, none⟩ = some (.int .i64 f) ∧ V.cell? ⟨P, 1, none⟩ = some (.int .i64 t2)) ∧ V.cell? ⟨G, 0, none⟩ = some (.slice A n c)) (by kernel_rfl) (HSS.out _ HBB.out) (fun hHeld => ?_)
          refine wpAnyH_take (i := 0) (v := ?v1) rfl (by kernel_rfl) (by kernel_rfl) (by kernel_rfl) (fun _ _ _ h => h) (Or.inl ⟨by rfl, ?hy1⟩) (by assumption) ?rest1
          case hy1 => (intro wx hSw; (try dsimp only at hSw); go_simp; try with_reducible rfl)
          try simp only [Act.put, List.setIfInBounds_toArray, List.set_cons_zero, List.set_cons_succ]
          refine wpAnyH_take (i := 1) (v := ?v2) rfl (by kernel_rfl) (by kernel_rfl) (by kernel_rfl) (fun _ _ _ h => h) (Or.inl ⟨by rfl, ?hy2⟩) (by assumption) ?rest2
          case hy2 => (intro wx hSw; (try dsimp only at hSw); go_simp; try with_reducible rfl)
          try simp only [Act.put, List.setIfInBounds_toArray, List.set_cons_zero, List.set_cons_succ]
          refine wpAnyH_take (i := 2) (v := ?v3) rfl (by kernel_rfl) (by kernel_rfl) (by kernel_rfl) (fun _ _ _ h => h) (Or.inl ⟨by rfl, ?hy3⟩) (by assumption) ?rest3
          case hy3 => (intro wx hSw; (try dsimp only at hSw); go_simp; try with_reducible rfl)
          try simp only [Act.put, List.setIfInBounds_toArray, List.set_cons_zero, List.set_cons_succ]
          refine wpAnyH_take (i := 3) (v := ?v4) rfl (by kernel_rfl) (by kernel_rfl) (by kernel_rfl) (fun _ _ _ h => h) (Or.inl ⟨by rfl, ?hy4⟩) (by assumption) ?rest4
          case hy4 => (intro wx hSw; (try dsimp only at hSw); go_simp; try with_reducible rfl)
          try simp only [Act.put, List.setIfInBounds_toArray, List.set_cons_zero, List.set_cons_succ]
          refine wpAnyH_take (i := 4) (v := ?v5) rfl (by kernel_rfl) (by kernel_rfl) (by kernel_rfl) (fun _ _ _ h => h) (Or.inl ⟨by rfl, ?hy5⟩) (by assumption) ?rest5
          case hy5 => (intro wx hSw; (try dsimp only at hSw); go_simp; try with_reducible rfl)
          try simp only [Act.put, List.setIfInBounds_toArray, List.set_cons_zero, List.set_cons_succ]
          refine wpAnyH_take (i := 5) (v := ?v6) rfl (by kernel_rfl) (by kernel_rfl) (by kernel_rfl) (fun _ _ _ h => h) (Or.inl ⟨by rfl, ?hy6⟩) (by assumption) ?rest6
          case hy6 => (intro wx hSw; (try dsimp only at hSw); go_simp; try with_reducible rfl)
          try simp only [Act.put, List.setIfInBounds_toArray, List.set_cons_zero, List.set_cons_succ]
          refine wpAnyH_ready (rs := [6, 12]) (by kernel_rfl) (by simp) ?_
          refine AllReadyH.cons rfl (fun K hK => ?_) ?_
          · go_simp; (try rw [hcv]); try rw [show (w6.alloc (.cells #[.int .u8 (kb.toNat : Int)] 5)).drew = w6.drew.alloc (.cells #[.int .u8 (kb.toNat : Int)] 5) from rfl]
            have hs0 := HBB.out.size
            have HY := Lib.hid (Has.new w6.drew #[.int .u8 (kb.toNat : Int)] 5)
            have hsz : (w6.drew.alloc (.cells #[.int .u8 (kb.toNat : Int)] 5)).heap.size = w6.drew.heap.size + 1 := by simp
            replace HBB := Lib.hid (HBB.out.alloc (.cells #[.int .u8 (kb.toNat : Int)] 5))
            replace HDD : Hid (IsDeck (w6.drew.alloc (.cells #[.int .u8 (kb.toNat : Int)] 5)) b) := Lib.hid (HDD.out.alloc _)
            obtain ⟨wB, hwB⟩ : ∃ z, w6.drew.alloc (.cells #[.int .u8 (kb.toNat : Int)] 5) = z := ⟨_, rfl⟩
            obtain ⟨Y, hY⟩ : ∃ z, w6.drew.heap.size = z := ⟨_, rfl⟩
            have hYw : w6.heap.size ≤ Y := by rw [← hY]; exact hs0
            rw [hwB] at HBB HDD hsz HY ⊢
            rw [hY] at hsz HY
            try rw [hY]
            try rw [show w6.heap.size = Y from hY]
            clear hsz hwB hY hs0
            refine hK.out _ _ ?_ (fun hHeld => ?_)
            · exact HSS.out _ HBB.out
            clear hK K
            try simp only [Act.put, List.setIfInBounds_toArray, List.set_cons_zero, List.set_cons_succ]
            refine wpAnyH_ready (rs := [7, 12]) (by kernel_rfl) (by simp) ?_
            refine AllReadyH.cons rfl (fun K hK => ?_) ?_
            · have hc7 := conv1' wB Y kb (by rw [HY.out.cell]; rfl)
              go_simp
              clear hc7 HY
              refine hK.out _ _ ?_ (fun hHeld => ?_)
              · exact HSS.out _ HBB.out
              clear hK K
              try simp only [Act.put, List.setIfInBounds_toArray, List.set_cons_zero, List.set_cons_succ]
              refine wpAnyH_take (i := 8) (v := ?v7) rfl (by kernel_rfl) (by kernel_rfl) (by kernel_rfl) (fun _ _ _ h => h) (Or.inl ⟨by rfl, ?hy7⟩) (by assumption) ?rest7
              case hy7 => (intro wx hSw; (try dsimp only at hSw); go_simp; try with_reducible rfl)
              try simp only [Act.put, List.setIfInBounds_toArray, List.set_cons_zero, List.set_cons_succ]
              refine wpAnyH_take (i := 9) (v := ?v8) rfl (by kernel_rfl) (by kernel_rfl) (by kernel_rfl) (fun _ _ _ h => h) (Or.inl ⟨by rfl, ?hy8⟩) (by assumption) ?rest8
              case hy8 => (intro wx hSw; (try dsimp only at hSw); go_simp; try with_reducible rfl)
              try simp only [Act.put, List.setIfInBounds_toArray, List.set_cons_zero, List.set_cons_succ]
              refine wpAnyH_ready (rs := [10, 12]) (by kernel_rfl) (by simp) ?_
              refine AllReadyH.cons rfl (fun K hK => ?_) ?_
              · go_simp
                go_at_call 16
                have hs2 := HBB.out.size
                refine (HCM.out _ 2 _ HPF.out (by omega) HDD.out (HS6.out.k.trans HBB.out)).mono ?_
                rintro r wC ⟨A2, m2, c2, zs2, κ2, rfl, hm2, hl2, hq2, _, hk, hd⟩
                have HL2 : Hid (CellsS (fun i => w6.heap.size ≤ i ∧ i < wC.heap.size) wC A2 (m2 * 10) (rowF 10 clC zs2)) := Lib.hid (hl2.keep (fun _ _ _ => rfl) (fun q hS => ⟨by omega, hS.2⟩))
                have HQ2 : Hid (∀ i, i < m2 → clQ (fun i => w6.heap.size ≤ i ∧ i < wC.heap.size) wC (zs2 i)) := Lib.hid (fun i hi => clQ_moves _ _ _ _ _ (hq2 i hi) (fun _ _ _ => rfl) (fun q hS => ⟨by omega, hS.2⟩))
                replace HBB : Hid (Keeps b w6 wC) := Lib.hid (HBB.out.trans hk)
                replace HDD := Lib.hid hd
                clear hl2 hq2 hk hd hs2
                go_simp
                refine hK.out _ _ ?_ (fun hHeld => ?_)
                · exact HSS.out _ HBB.out
                clear hK K
                try simp only [Act.put, List.setIfInBounds_toArray, List.set_cons_zero, List.set_cons_succ]
                refine wpAnyH_take (i := 11) (v := ?v9) rfl (by kernel_rfl) (by kernel_rfl) (by kernel_rfl) (fun _ _ _ h => h) (Or.inl ⟨by rfl, ?hy9⟩) (by assumption) ?rest9
                case hy9 => (intro wx hSw; (try dsimp only at hSw); go_simp; try with_reducible rfl)
                show wpAnyH _ _ _ _ _ _ _ (Act.put _ (some 51) _) _
                try simp only [Act.put, List.setIfInBounds_toArray, List.set_cons_zero, List.set_cons_succ]
                refine wpAnyH_ready (rs := [12]) (by kernel_rfl) (by simp) ?_
                refine AllReadyH.cons rfl (fun K hK => ?_) ?_
                · go_simp
                  have hs0 := HBB.out.size
                  have HZ := Lib.hid (Has.new wC #[.int .i64 0, .int .i64 0, .slice none 0 0, .slice none 0 0] 49)
                  have hsz : (wC.alloc (.cells #[.int .i64 0, .int .i64 0, .slice none 0 0, .slice none 0 0] 49)).heap.size = wC.heap.size + 1 := by simp
                  replace HL2 : Hid (CellsS (fun i => w6.heap.size ≤ i ∧ i ≠ wC.heap.size ∧ i < (wC.alloc (.cells #[.int .i64 0, .int .i64 0, .slice none 0 0, .slice none 0 0] 49)).heap.size) (wC.alloc (.cells #[.int .i64 0, .int .i64 0, .slice none 0 0, .slice none 0 0] 49)) A2 (m2 * 10) (rowF 10 clC zs2)) := Lib.hid (HL2.out.keep (fun q o hS => World.cell?_alloc_old wC _ _ (show q ≠ wC.heap.size by omega)) (fun q hS => ⟨hS.1, by omega, by omega⟩))
                  replace HQ2 : Hid (∀ i, i < m2 → clQ (fun i => w6.heap.size ≤ i ∧ i ≠ wC.heap.size ∧ i < (wC.alloc (.cells #[.int .i64 0, .int .i64 0, .slice none 0 0, .slice none 0 0] 49)).heap.size) (wC.alloc (.cells #[.int .i64 0, .int .i64 0, .slice none 0 0, .slice none 0 0] 49)) (zs2 i)) := Lib.hid (fun i hi => clQ_moves _ _ _ _ _ (HQ2.out i hi) (fun q o hS => World.cell?_alloc_old wC _ _ (show q ≠ wC.heap.size by omega)) (fun q hS => ⟨hS.1, by omega, by omega⟩))
                  replace HBB := Lib.hid (HBB.out.alloc (.cells #[.int .i64 0, .int .i64 0, .slice none 0 0, .slice none 0 0] 49))
                  replace HDD : Hid (IsDeck (wC.alloc (.cells #[.int .i64 0, .int .i64 0, .slice none 0 0, .slice none 0 0] 49)) b) := Lib.hid (HDD.out.alloc _)
                  obtain ⟨wA, hwA⟩ : ∃ z, wC.alloc (.cells #[.int .i64 0, .int .i64 0, .slice none 0 0, .slice none 0 0] 49) = z := ⟨_, rfl⟩
                  obtain ⟨E, hE⟩ : ∃ z, wC.heap.size = z := ⟨_, rfl⟩
                  have hEw : w6.heap.size ≤ E := by rw [← hE]; exact hs0
                  rw [hwA] at HBB HDD hsz HZ HL2 HQ2 ⊢
                  rw [hE] at hsz HZ HL2 HQ2
                  try rw [hE]
                  try rw [show w6.heap.size = E from hE]
                  clear hsz hwA hE hs0
                  refine hK.out _ _ ?_ (fun hHeld => ?_)
                  · exact HSS.out _ HBB.out
                  clear hK K
                  try simp only [Act.put, List.setIfInBounds_toArray, List.set_cons_zero, List.set_cons_succ]
                  refine wpAnyH_ready (rs := [13]) (by kernel_rfl) (by simp) ?_
                  refine AllReadyH.cons rfl (fun K hK => ?_) ?_
                  · refine step_store_mid (by rfl) 49 _ _ (by rfl) E 0 #[.int .i64 f, .int .i64 t2, .slice none 0 0, .slice A2 m2 c2] (by rfl) (by rfl) (HZ.out.there' (show 0 + 4 ≤ 4 by decide)) HNI.out (by rfl) ?_
                    have hl := leaves_setCells E (#[.int .i64 f, .int .i64 t2, .slice none 0 0, .slice A2 m2 c2] : Array Value).toList 0 wA
                    have hbm : Below w6.heap.size wA (wA.setCells E 0 (#[.int .i64 f, .int .i64 t2, .slice none 0 0, .slice A2 m2 c2] : Array Value).toList) := hl.below (fun k hk => by omega) HBB.out.size
                    have HO := Lib.hid (HZ.out.whole (ds := #[.int .i64 f, .int .i64 t2, .slice none 0 0, .slice A2 m2 c2]) rfl)
                    have hs2 : (wA.setCells E 0 (#[.int .i64 f, .int .i64 t2, .slice none 0 0, .slice A2 m2 c2] : Array Value).toList).heap.size = wA.heap.size := setCells_size _ _ _ _
                    replace HL2 : Hid (CellsS (fun i => w6.heap.size ≤ i ∧ i ≠ E ∧ i < (wA.setCells E 0 (#[.int .i64 f, .int .i64 t2, .slice none 0 0, .slice A2 m2 c2] : Array Value).toList).heap.size) (wA.setCells E 0 (#[.int .i64 f, .int .i64 t2, .slice none 0 0, .slice A2 m2 c2] : Array Value).toList) A2 (m2 * 10) (rowF 10 clC zs2)) := Lib.hid (HL2.out.keep (fun q o hS => World.cell?_of_block (w := wA) (hl.block q hS.2.2 hS.2.1)) (fun q hS => by rw [hs2]; exact hS))
                    replace HQ2 : Hid (∀ i, i < m2 → clQ (fun i => w6.heap.size ≤ i ∧ i ≠ E ∧ i < (wA.setCells E 0 (#[.int .i64 f, .int .i64 t2, .slice none 0 0, .slice A2 m2 c2] : Array Value).toList).heap.size) (wA.setCells E 0 (#[.int .i64 f, .int .i64 t2, .slice none 0 0, .slice A2 m2 c2] : Array Value).toList) (zs2 i)) := Lib.hid (fun i hi => clQ_moves _ _ _ _ _ (HQ2.out i hi) (fun q o hS => World.cell?_of_block (w := wA) (hl.block q hS.2.2 hS.2.1)) (fun q hS => by rw [hs2]; exact hS))
                    replace HBB := Lib.hid (HBB.out.then hbm (Nat.le_refl _))
                    replace HDD : Hid (IsDeck (wA.setCells E 0 (#[.int .i64 f, .int .i64 t2, .slice none 0 0, .slice A2 m2 c2] : Array Value).toList) b) := Lib.hid (HDD.out.below hbm (by omega))
                    obtain ⟨wS, hwS⟩ : ∃ z, wA.setCells E 0 (#[.int .i64 f, .int .i64 t2, .slice none 0 0, .slice A2 m2 c2] : Array Value).toList = z := ⟨_, rfl⟩
                    rw [hwS] at HBB HDD HO HL2 HQ2 ⊢
                    clear hl hbm hs2 hwS
                    refine hK.out _ _ ?_ (fun hHeld => ?_)
                    · exact HSS.out _ HBB.out
                    clear hK K
                    try simp only [Act.put, List.setIfInBounds_toArray, List.set_cons_zero, List.set_cons_succ]
                    refine wpAnyH_done (by kernel_rfl) ?_ _
                    go_wp2_with fail
                    go_meet
                    case rel => exact ⟨E, m2, c2, A2, zs2, rfl, hEw, hm2, HBB, HDD, HO, HL2, HQ2⟩
                  exact AllReadyH.nil
                exact AllReadyH.nil
              refine AllReadyH.cons rfl (fun K hK => ?_) ?_
              · go_simp
                have hs0 := HBB.out.size
                have HZ := Lib.hid (Has.new wB #[.int .i64 0, .int .i64 0, .slice none 0 0, .slice none 0 0] 49)
                have hsz : (wB.alloc (.cells #[.int .i64 0, .int .i64 0, .slice none 0 0, .slice none 0 0] 49)).heap.size = wB.heap.size + 1 := by simp
                replace HBB := Lib.hid (HBB.out.alloc (.cells #[.int .i64 0, .int .i64 0, .slice none 0 0, .slice none 0 0] 49))
                replace HDD : Hid (IsDeck (wB.alloc (.cells #[.int .i64 0, .int .i64 0, .slice none 0 0, .slice none 0 0] 49)) b) := Lib.hid (HDD.out.alloc _)
                obtain ⟨wA, hwA⟩ : ∃ z, wB.alloc (.cells #[.int .i64 0, .int .i64 0, .slice none 0 0, .slice none 0 0] 49) = z := ⟨_, rfl⟩
                obtain ⟨E, hE⟩ : ∃ z, wB.heap.size = z := ⟨_, rfl⟩
                have hEw : w6.heap.size ≤ E := by rw [← hE]; exact hs0
                rw [hwA] at HBB HDD hsz HZ ⊢
                rw [hE] at hsz HZ
                try rw [hE]
                try rw [show w6.heap.size = E from hE]
                clear hsz hwA hE hs0
                refine hK.out _ _ ?_ (fun hHeld => ?_)
                · exact HSS.out _ HBB.out
                clear hK K
                try simp only [Act.put, List.setIfInBounds_toArray, List.set_cons_zero, List.set_cons_succ]
                refine wpAnyH_ready (rs := [10]) (by kernel_rfl) (by simp) ?_
                refine AllReadyH.cons rfl (fun K hK => ?_) ?_
                · go_simp
                  go_at_call 16
                  have hs2 := HBB.out.size
                  refine (HCM.out _ 2 _ HPF.out (by omega) HDD.out (HS6.out.k.trans HBB.out)).mono ?_
                  rintro r wC ⟨A2, m2, c2, zs2, κ2, rfl, hm2, hl2, hq2, _, hk, hd⟩
                  have hZl := HZ.out.lt
                  have HL2 : Hid (CellsS (fun i => w6.heap.size ≤ i ∧ i ≠ E ∧ i < wC.heap.size) wC A2 (m2 * 10) (rowF 10 clC zs2)) := Lib.hid (hl2.keep (fun _ _ _ => rfl) (fun q hS => ⟨by omega, by omega, hS.2⟩))
                  have HQ2 : Hid (∀ i, i < m2 → clQ (fun i => w6.heap.size ≤ i ∧ i ≠ E ∧ i < wC.heap.size) wC (zs2 i)) := Lib.hid (fun i hi => clQ_moves _ _ _ _ _ (hq2 i hi) (fun _ _ _ => rfl) (fun q hS => ⟨by omega, by omega, hS.2⟩))
                  replace HZ := Lib.hid (HZ.out.keeps hk (by omega))
                  clear hZl
                  replace HBB : Hid (Keeps b w6 wC) := Lib.hid (HBB.out.trans hk)
                  replace HDD := Lib.hid hd
                  clear hl2 hq2 hk hd hs2
                  go_simp
                  refine hK.out _ _ ?_ (fun hHeld => ?_)
                  · exact HSS.out _ HBB.out
                  clear hK K
                  try simp only [Act.put, List.setIfInBounds_toArray, List.set_cons_zero, List.set_cons_succ]
                  refine wpAnyH_take (i := 11) (v := ?v10) rfl (by kernel_rfl) (by kernel_rfl) (by kernel_rfl) (fun _ _ _ h => h) (Or.inl ⟨by rfl, ?hy10⟩) (by assumption) ?rest10
                  case hy10 => (intro wx hSw; (try dsimp only at hSw); go_simp; try with_reducible rfl)
                  show wpAnyH _ _ _ _ _ _ _ (Act.put _ (some 51) _) _
                  try simp only [Act.put, List.setIfInBounds_toArray, List.set_cons_zero, List.set_cons_succ]
                  refine wpAnyH_ready (rs := [13]) (by kernel_rfl) (by simp) ?_
                  refine AllReadyH.cons rfl (fun K hK => ?_) ?_
                  · refine step_store_mid (by rfl) 49 _ _ (by rfl) E 0 #[.int .i64 f, .int .i64 t2, .slice none 0 0, .slice A2 m2 c2] (by rfl) (by rfl) (HZ.out.there' (show 0 + 4 ≤ 4 by decide)) HNI.out (by rfl) ?_
                    have hl := leaves_setCells E (#[.int .i64 f, .int .i64 t2, .slice none 0 0, .slice A2 m2 c2] : Array Value).toList 0 wC
                    have hbm : Below w6.heap.size wC (wC.setCells E 0 (#[.int .i64 f, .int .i64 t2, .slice none 0 0, .slice A2 m2 c2] : Array Value).toList) := hl.below (fun k hk => by omega) HBB.out.size
                    have HO := Lib.hid (HZ.out.whole (ds := #[.int .i64 f, .int .i64 t2, .slice none 0 0, .slice A2 m2 c2]) rfl)
                    have hs2 : (wC.setCells E 0 (#[.int .i64 f, .int .i64 t2, .slice none 0 0, .slice A2 m2 c2] : Array Value).toList).heap.size = wC.heap.size := setCells_size _ _ _ _
                    replace HL2 : Hid (CellsS (fun i => w6.heap.size ≤ i ∧ i ≠ E ∧ i < (wC.setCells E 0 (#[.int .i64 f, .int .i64 t2, .slice none 0 0, .slice A2 m2 c2] : Array Value).toList).heap.size) (wC.setCells E 0 (#[.int .i64 f, .int .i64 t2, .slice none 0 0, .slice A2 m2 c2] : Array Value).toList) A2 (m2 * 10) (rowF 10 clC zs2)) := Lib.hid (HL2.out.keep (fun q o hS => World.cell?_of_block (w := wC) (hl.block q hS.2.2 hS.2.1)) (fun q hS => by rw [hs2]; exact hS))
                    replace HQ2 : Hid (∀ i, i < m2 → clQ (fun i => w6.heap.size ≤ i ∧ i ≠ E ∧ i < (wC.setCells E 0 (#[.int .i64 f, .int .i64 t2, .slice none 0 0, .slice A2 m2 c2] : Array Value).toList).heap.size) (wC.setCells E 0 (#[.int .i64 f, .int .i64 t2, .slice none 0 0, .slice A2 m2 c2] : Array Value).toList) (zs2 i)) := Lib.hid (fun i hi => clQ_moves _ _ _ _ _ (HQ2.out i hi) (fun q o hS => World.cell?_of_block (w := wC) (hl.block q hS.2.2 hS.2.1)) (fun q hS => by rw [hs2]; exact hS))
                    replace HBB := Lib.hid (HBB.out.then hbm (Nat.le_refl _))
                    replace HDD : Hid (IsDeck (wC.setCells E 0 (#[.int .i64 f, .int .i64 t2, .slice none 0 0, .slice A2 m2 c2] : Array Value).toList) b) := Lib.hid (HDD.out.below hbm (by omega))
                    obtain ⟨wS, hwS⟩ : ∃ z, wC.setCells E 0 (#[.int .i64 f, .int .i64 t2, .slice none 0 0, .slice A2 m2 c2] : Array Value).toList = z := ⟨_, rfl⟩
                    rw [hwS] at HBB HDD HO HL2 HQ2 ⊢
                    clear hl hbm hs2 hwS
                    refine hK.out _ _ ?_ (fun hHeld => ?_)
                    · exact HSS.out _ HBB.out
                    clear hK K
                    try simp only [Act.put, List.setIfInBounds_toArray, List.set_cons_zero, List.set_cons_succ]
                    refine wpAnyH_done (by kernel_rfl) ?_ _
                    go_wp2_with fail
                    go_meet
                    case rel => exact ⟨E, m2, c2, A2, zs2, rfl, hEw, hm2, HBB, HDD, HO, HL2, HQ2⟩
                  exact AllReadyH.nil
                exact AllReadyH.nil
              exact AllReadyH.nil
            refine AllReadyH.cons rfl (fun K hK => ?_) ?_
            · go_simp
              have hs0 := HBB.out.size
              have HZ := Lib.hid (Has.new wB #[.int .i64 0, .int .i64 0, .slice none 0 0, .slice none 0 0] 49)
              have hsz : (wB.alloc (.cells #[.int .i64 0, .int .i64 0, .slice none 0 0, .slice none 0 0] 49)).heap.size = wB.heap.size + 1 := by simp
              replace HY := Lib.hid (HY.out.alloc (.cells #[.int .i64 0, .int .i64 0, .slice none 0 0, .slice none 0 0] 49))
              replace HBB := Lib.hid (HBB.out.alloc (.cells #[.int .i64 0, .int .i64 0, .slice none 0 0, .slice none 0 0] 49))
              replace HDD : Hid (IsDeck (wB.alloc (.cells #[.int .i64 0, .int .i64 0, .slice none 0 0, .slice none 0 0] 49)) b) := Lib.hid (HDD.out.alloc _)
              obtain ⟨wA, hwA⟩ : ∃ z, wB.alloc (.cells #[.int .i64 0, .int .i64 0, .slice none 0 0, .slice none 0 0] 49) = z := ⟨_, rfl⟩
              obtain ⟨E, hE⟩ : ∃ z, wB.heap.size = z := ⟨_, rfl⟩
              have hEw : w6.heap.size ≤ E := by rw [← hE]; exact hs0
              rw [hwA] at HBB HDD hsz HZ HY ⊢
              rw [hE] at hsz HZ
              try rw [hE]
              try rw [show w6.heap.size = E from hE]
              clear hsz hwA hE hs0
              refine hK.out _ _ ?_ (fun hHeld => ?_)
              · exact HSS.out _ HBB.out
              clear hK K
              try simp only [Act.put, List.setIfInBounds_toArray, List.set_cons_zero, List.set_cons_succ]
              refine wpAnyH_ready (rs := [7]) (by kernel_rfl) (by simp) ?_
              refine AllReadyH.cons rfl (fun K hK => ?_) ?_
              · have hc7 := conv1' wA Y kb (by rw [HY.out.cell]; rfl)
                go_simp
                clear hc7 HY
                refine hK.out _ _ ?_ (fun hHeld => ?_)
                · exact HSS.out _ HBB.out
                clear hK K
                try simp only [Act.put, List.setIfInBounds_toArray, List.set_cons_zero, List.set_cons_succ]
                refine wpAnyH_take (i := 8) (v := ?v11) rfl (by kernel_rfl) (by kernel_rfl) (by kernel_rfl) (fun _ _ _ h => h) (Or.inl ⟨by rfl, ?hy11⟩) (by assumption) ?rest11
                case hy11 => (intro wx hSw; (try dsimp only at hSw); go_simp; try with_reducible rfl)
                try simp only [Act.put, List.setIfInBounds_toArray, List.set_cons_zero, List.set_cons_succ]
                refine wpAnyH_take (i := 9) (v := ?v12) rfl (by kernel_rfl) (by kernel_rfl) (by kernel_rfl) (fun _ _ _ h => h) (Or.inl ⟨by rfl, ?hy12⟩) (by assumption) ?rest12
                case hy12 => (intro wx hSw; (try dsimp only at hSw); go_simp; try with_reducible rfl)
                try simp only [Act.put, List.setIfInBounds_toArray, List.set_cons_zero, List.set_cons_succ]
                refine wpAnyH_ready (rs := [10]) (by kernel_rfl) (by simp) ?_
                refine AllReadyH.cons rfl (fun K hK => ?_) ?_
                · go_simp
                  go_at_call 16
                  have hs2 := HBB.out.size
                  refine (HCM.out _ 2 _ HPF.out (by omega) HDD.out (HS6.out.k.trans HBB.out)).mono ?_
                  rintro r wC ⟨A2, m2, c2, zs2, κ2, rfl, hm2, hl2, hq2, _, hk, hd⟩
                  have hZl := HZ.out.lt
                  have HL2 : Hid (CellsS (fun i => w6.heap.size ≤ i ∧ i ≠ E ∧ i < wC.heap.size) wC A2 (m2 * 10) (rowF 10 clC zs2)) := Lib.hid (hl2.keep (fun _ _ _ => rfl) (fun q hS => ⟨by omega, by omega, hS.2⟩))
                  have HQ2 : Hid (∀ i, i < m2 → clQ (fun i => w6.heap.size ≤ i ∧ i ≠ E ∧ i < wC.heap.size) wC (zs2 i)) := Lib.hid (fun i hi => clQ_moves _ _ _ _ _ (hq2 i hi) (fun _ _ _ => rfl) (fun q hS => ⟨by omega, by omega, hS.2⟩))
                  replace HZ := Lib.hid (HZ.out.keeps hk (by omega))
                  clear hZl
                  replace HBB : Hid (Keeps b w6 wC) := Lib.hid (HBB.out.trans hk)
                  replace HDD := Lib.hid hd
                  clear hl2 hq2 hk hd hs2
                  go_simp
                  refine hK.out _ _ ?_ (fun hHeld => ?_)
                  · exact HSS.out _ HBB.out
                  clear hK K
                  try simp only [Act.put, List.setIfInBounds_toArray, List.set_cons_zero, List.set_cons_succ]
                  refine wpAnyH_take (i := 11) (v := ?v13) rfl (by kernel_rfl) (by kernel_rfl) (by kernel_rfl) (fun _ _ _ h => h) (Or.inl ⟨by rfl, ?hy13⟩) (by assumption) ?rest13
                  case hy13 => (intro wx hSw; (try dsimp only at hSw); go_simp; try with_reducible rfl)
                  show wpAnyH _ _ _ _ _ _ _ (Act.put _ (some 51) _) _
                  try simp only [Act.put, List.setIfInBounds_toArray, List.set_cons_zero, List.set_cons_succ]
                  refine wpAnyH_ready (rs := [13]) (by kernel_rfl) (by simp) ?_
                  refine AllReadyH.cons rfl (fun K hK => ?_) ?_
                  · refine step_store_mid (by rfl) 49 _ _ (by rfl) E 0 #[.int .i64 f, .int .i64 t2, .slice none 0 0, .slice A2 m2 c2] (by rfl) (by rfl) (HZ.out.there' (show 0 + 4 ≤ 4 by decide)) HNI.out (by rfl) ?_
                    have hl := leaves_setCells E (#[.int .i64 f, .int .i64 t2, .slice none 0 0, .slice A2 m2 c2] : Array Value).toList 0 wC
                    have hbm : Below w6.heap.size wC (wC.setCells E 0 (#[.int .i64 f, .int .i64 t2, .slice none 0 0, .slice A2 m2 c2] : Array Value).toList) := hl.below (fun k hk => by omega) HBB.out.size
                    have HO := Lib.hid (HZ.out.whole (ds := #[.int .i64 f, .int .i64 t2, .slice none 0 0, .slice A2 m2 c2]) rfl)
                    have hs2 : (wC.setCells E 0 (#[.int .i64 f, .int .i64 t2, .slice none 0 0, .slice A2 m2 c2] : Array Value).toList).heap.size = wC.heap.size := setCells_size _ _ _ _
                    replace HL2 : Hid (CellsS (fun i => w6.heap.size ≤ i ∧ i ≠ E ∧ i < (wC.setCells E 0 (#[.int .i64 f, .int .i64 t2, .slice none 0 0, .slice A2 m2 c2] : Array Value).toList).heap.size) (wC.setCells E 0 (#[.int .i64 f, .int .i64 t2, .slice none 0 0, .slice A2 m2 c2] : Array Value).toList) A2 (m2 * 10) (rowF 10 clC zs2)) := Lib.hid (HL2.out.keep (fun q o hS => World.cell?_of_block (w := wC) (hl.block q hS.2.2 hS.2.1)) (fun q hS => by rw [hs2]; exact hS))
                    replace HQ2 : Hid (∀ i, i < m2 → clQ (fun i => w6.heap.size ≤ i ∧ i ≠ E ∧ i < (wC.setCells E 0 (#[.int .i64 f, .int .i64 t2, .slice none 0 0, .slice A2 m2 c2] : Array Value).toList).heap.size) (wC.setCells E 0 (#[.int .i64 f, .int .i64 t2, .slice none 0 0, .slice A2 m2 c2] : Array Value).toList) (zs2 i)) := Lib.hid (fun i hi => clQ_moves _ _ _ _ _ (HQ2.out i hi) (fun q o hS => World.cell?_of_block (w := wC) (hl.block q hS.2.2 hS.2.1)) (fun q hS => by rw [hs2]; exact hS))
                    replace HBB := Lib.hid (HBB.out.then hbm (Nat.le_refl _))
                    replace HDD : Hid (IsDeck (wC.setCells E 0 (#[.int .i64 f, .int .i64 t2, .slice none 0 0, .slice A2 m2 c2] : Array Value).toList) b) := Lib.hid (HDD.out.below hbm (by omega))
                    obtain ⟨wS, hwS⟩ : ∃ z, wC.setCells E 0 (#[.int .i64 f, .int .i64 t2, .slice none 0 0, .slice A2 m2 c2] : Array Value).toList = z := ⟨_, rfl⟩
                    rw [hwS] at HBB HDD HO HL2 HQ2 ⊢
                    clear hl hbm hs2 hwS
                    refine hK.out _ _ ?_ (fun hHeld => ?_)
                    · exact HSS.out _ HBB.out
                    clear hK K
                    try simp only [Act.put, List.setIfInBounds_toArray, List.set_cons_zero, List.set_cons_succ]
                    refine wpAnyH_done (by kernel_rfl) ?_ _
                    go_wp2_with fail
                    go_meet
                    case rel => exact ⟨E, m2, c2, A2, zs2, rfl, hEw, hm2, HBB, HDD, HO, HL2, HQ2⟩
                  exact AllReadyH.nil
                exact AllReadyH.nil
              exact AllReadyH.nil
            exact AllReadyH.nil
          refine AllReadyH.cons rfl (fun K hK => ?_) ?_
          · go_simp; try rw [show (w6.alloc (.cells #[.int .i64 0, .int .i64 0, .slice none 0 0, .slice none 0 0] 49)).drew = w6.drew.alloc (.cells #[.int .i64 0, .int .i64 0, .slice none 0 0, .slice none 0 0] 49) from rfl]
            have hs0 := HBB.out.size
            have HZ := Lib.hid (Has.new w6.drew #[.int .i64 0, .int .i64 0, .slice none 0 0, .slice none 0 0] 49)
            have hsz : (w6.drew.alloc (.cells #[.int .i64 0, .int .i64 0, .slice none 0 0, .slice none 0 0] 49)).heap.size = w6.drew.heap.size + 1 := by simp
            replace HBB := Lib.hid (HBB.out.alloc (.cells #[.int .i64 0, .int .i64 0, .slice none 0 0, .slice none 0 0] 49))
            replace HDD : Hid (IsDeck (w6.drew.alloc (.cells #[.int .i64 0, .int .i64 0, .slice none 0 0, .slice none 0 0] 49)) b) := Lib.hid (HDD.out.alloc _)
            obtain ⟨wA, hwA⟩ : ∃ z, w6.drew.alloc (.cells #[.int .i64 0, .int .i64 0, .slice none 0 0, .slice none 0 0] 49) = z := ⟨_, rfl⟩
            obtain ⟨E, hE⟩ : ∃ z, w6.drew.heap.size = z := ⟨_, rfl⟩
            have hEw : w6.heap.size ≤ E := by rw [← hE]; exact hs0
            rw [hwA] at HBB HDD hsz HZ ⊢
            rw [hE] at hsz HZ
            try rw [hE]
            try rw [show w6.heap.size = E from hE]
            clear hsz hwA hE hs0
            refine hK.out _ _ ?_ (fun hHeld => ?_)
            · exact HSS.out _ HBB.out
            clear hK K
            try simp only [Act.put, List.setIfInBounds_toArray, List.set_cons_zero, List.set_cons_succ]
            refine wpAnyH_ready (rs := [6]) (by kernel_rfl) (by simp) ?_
            refine AllReadyH.cons rfl (fun K hK => ?_) ?_
            · go_simp; (try rw [hcv])
              have hs0 := HBB.out.size
              have HY := Lib.hid (Has.new wA #[.int .u8 (kb.toNat : Int)] 5)
              have hsz : (wA.alloc (.cells #[.int .u8 (kb.toNat : Int)] 5)).heap.size = wA.heap.size + 1 := by simp
              replace HZ := Lib.hid (HZ.out.alloc (.cells #[.int .u8 (kb.toNat : Int)] 5))
              replace HBB := Lib.hid (HBB.out.alloc (.cells #[.int .u8 (kb.toNat : Int)] 5))
              replace HDD : Hid (IsDeck (wA.alloc (.cells #[.int .u8 (kb.toNat : Int)] 5)) b) := Lib.hid (HDD.out.alloc _)
              obtain ⟨wB, hwB⟩ : ∃ z, wA.alloc (.cells #[.int .u8 (kb.toNat : Int)] 5) = z := ⟨_, rfl⟩
              obtain ⟨Y, hY⟩ : ∃ z, wA.heap.size = z := ⟨_, rfl⟩
              have hYw : w6.heap.size ≤ Y := by rw [← hY]; exact hs0
              rw [hwB] at HBB HDD hsz HY HZ ⊢
              rw [hY] at hsz HY
              try rw [hY]
              try rw [show w6.heap.size = Y from hY]
              clear hsz hwB hY hs0
              refine hK.out _ _ ?_ (fun hHeld => ?_)
              · exact HSS.out _ HBB.out
              clear hK K
              try simp only [Act.put, List.setIfInBounds_toArray, List.set_cons_zero, List.set_cons_succ]
              refine wpAnyH_ready (rs := [7]) (by kernel_rfl) (by simp) ?_
              refine AllReadyH.cons rfl (fun K hK => ?_) ?_
              · have hc7 := conv1' wB Y kb (by rw [HY.out.cell]; rfl)
                go_simp
                clear hc7 HY
                refine hK.out _ _ ?_ (fun hHeld => ?_)
                · exact HSS.out _ HBB.out
                clear hK K
                try simp only [Act.put, List.setIfInBounds_toArray, List.set_cons_zero, List.set_cons_succ]
                refine wpAnyH_take (i := 8) (v := ?v14) rfl (by kernel_rfl) (by kernel_rfl) (by kernel_rfl) (fun _ _ _ h => h) (Or.inl ⟨by rfl, ?hy14⟩) (by assumption) ?rest14
                case hy14 => (intro wx hSw; (try dsimp only at hSw); go_simp; try with_reducible rfl)
                try simp only [Act.put, List.setIfInBounds_toArray, List.set_cons_zero, List.set_cons_succ]
                refine wpAnyH_take (i := 9) (v := ?v15) rfl (by kernel_rfl) (by kernel_rfl) (by kernel_rfl) (fun _ _ _ h => h) (Or.inl ⟨by rfl, ?hy15⟩) (by assumption) ?rest15
                case hy15 => (intro wx hSw; (try dsimp only at hSw); go_simp; try with_reducible rfl)
                try simp only [Act.put, List.setIfInBounds_toArray, List.set_cons_zero, List.set_cons_succ]
                refine wpAnyH_ready (rs := [10]) (by kernel_rfl) (by simp) ?_
                refine AllReadyH.cons rfl (fun K hK => ?_) ?_
                · go_simp
                  go_at_call 16
                  have hs2 := HBB.out.size
                  refine (HCM.out _ 2 _ HPF.out (by omega) HDD.out (HS6.out.k.trans HBB.out)).mono ?_
                  rintro r wC ⟨A2, m2, c2, zs2, κ2, rfl, hm2, hl2, hq2, _, hk, hd⟩
                  have hZl := HZ.out.lt
                  have HL2 : Hid (CellsS (fun i => w6.heap.size ≤ i ∧ i ≠ E ∧ i < wC.heap.size) wC A2 (m2 * 10) (rowF 10 clC zs2)) := Lib.hid (hl2.keep (fun _ _ _ => rfl) (fun q hS => ⟨by omega, by omega, hS.2⟩))
                  have HQ2 : Hid (∀ i, i < m2 → clQ (fun i => w6.heap.size ≤ i ∧ i ≠ E ∧ i < wC.heap.size) wC (zs2 i)) := Lib.hid (fun i hi => clQ_moves _ _ _ _ _ (hq2 i hi) (fun _ _ _ => rfl) (fun q hS => ⟨by omega, by omega, hS.2⟩))
                  replace HZ := Lib.hid (HZ.out.keeps hk (by omega))
                  clear hZl
                  replace HBB : Hid (Keeps b w6 wC) := Lib.hid (HBB.out.trans hk)
                  replace HDD := Lib.hid hd
                  clear hl2 hq2 hk hd hs2
                  go_simp
                  refine hK.out _ _ ?_ (fun hHeld => ?_)
                  · exact HSS.out _ HBB.out
                  clear hK K
                  try simp only [Act.put, List.setIfInBounds_toArray, List.set_cons_zero, List.set_cons_succ]
                  refine wpAnyH_take (i := 11) (v := ?v16) rfl (by kernel_rfl) (by kernel_rfl) (by kernel_rfl) (fun _ _ _ h => h) (Or.inl ⟨by rfl, ?hy16⟩) (by assumption) ?rest16
                  case hy16 => (intro wx hSw; (try dsimp only at hSw); go_simp; try with_reducible rfl)
                  show wpAnyH _ _ _ _ _ _ _ (Act.put _ (some 51) _) _
                  try simp only [Act.put, List.setIfInBounds_toArray, List.set_cons_zero, List.set_cons_succ]
                  refine wpAnyH_ready (rs := [13]) (by kernel_rfl) (by simp) ?_
                  refine AllReadyH.cons rfl (fun K hK => ?_) ?_
                  · refine step_store_mid (by rfl) 49 _ _ (by rfl) E 0 #[.int .i64 f, .int .i64 t2, .slice none 0 0, .slice A2 m2 c2] (by rfl) (by rfl) (HZ.out.there' (show 0 + 4 ≤ 4 by decide)) HNI.out (by rfl) ?_
                    have hl := leaves_setCells E (#[.int .i64 f, .int .i64 t2, .slice none 0 0, .slice A2 m2 c2] : Array Value).toList 0 wC
                    have hbm : Below w6.heap.size wC (wC.setCells E 0 (#[.int .i64 f, .int .i64 t2, .slice none 0 0, .slice A2 m2 c2] : Array Value).toList) := hl.below (fun k hk => by omega) HBB.out.size
                    have HO := Lib.hid (HZ.out.whole (ds := #[.int .i64 f, .int .i64 t2, .slice none 0 0, .slice A2 m2 c2]) rfl)
                    have hs2 : (wC.setCells E 0 (#[.int .i64 f, .int .i64 t2, .slice none 0 0, .slice A2 m2 c2] : Array Value).toList).heap.size = wC.heap.size := setCells_size _ _ _ _
                    replace HL2 : Hid (CellsS (fun i => w6.heap.size ≤ i ∧ i ≠ E ∧ i < (wC.setCells E 0 (#[.int .i64 f, .int .i64 t2, .slice none 0 0, .slice A2 m2 c2] : Array Value).toList).heap.size) (wC.setCells E 0 (#[.int .i64 f, .int .i64 t2, .slice none 0 0, .slice A2 m2 c2] : Array Value).toList) A2 (m2 * 10) (rowF 10 clC zs2)) := Lib.hid (HL2.out.keep (fun q o hS => World.cell?_of_block (w := wC) (hl.block q hS.2.2 hS.2.1)) (fun q hS => by rw [hs2]; exact hS))
                    replace HQ2 : Hid (∀ i, i < m2 → clQ (fun i => w6.heap.size ≤ i ∧ i ≠ E ∧ i < (wC.setCells E 0 (#[.int .i64 f, .int .i64 t2, .slice none 0 0, .slice A2 m2 c2] : Array Value).toList).heap.size) (wC.setCells E 0 (#[.int .i64 f, .int .i64 t2, .slice none 0 0, .slice A2 m2 c2] : Array Value).toList) (zs2 i)) := Lib.hid (fun i hi => clQ_moves _ _ _ _ _ (HQ2.out i hi) (fun q o hS => World.cell?_of_block (w := wC) (hl.block q hS.2.2 hS.2.1)) (fun q hS => by rw [hs2]; exact hS))
                    replace HBB := Lib.hid (HBB.out.then hbm (Nat.le_refl _))
                    replace HDD : Hid (IsDeck (wC.setCells E 0 (#[.int .i64 f, .int .i64 t2, .slice none 0 0, .slice A2 m2 c2] : Array Value).toList) b) := Lib.hid (HDD.out.below hbm (by omega))
                    obtain ⟨wS, hwS⟩ : ∃ z, wC.setCells E 0 (#[.int .i64 f, .int .i64 t2, .slice none 0 0, .slice A2 m2 c2] : Array Value).toList = z := ⟨_, rfl⟩
                    rw [hwS] at HBB HDD HO HL2 HQ2 ⊢
                    clear hl hbm hs2 hwS
                    refine hK.out _ _ ?_ (fun hHeld => ?_)
                    · exact HSS.out _ HBB.out
                    clear hK K
                    try simp only [Act.put, List.setIfInBounds_toArray, List.set_cons_zero, List.set_cons_succ]
                    refine wpAnyH_done (by kernel_rfl) ?_ _
                    go_wp2_with fail
                    go_meet
                    case rel => exact ⟨E, m2, c2, A2, zs2, rfl, hEw, hm2, HBB, HDD, HO, HL2, HQ2⟩
                  exact AllReadyH.nil
                exact AllReadyH.nil
              exact AllReadyH.nil
            exact AllReadyH.nil
          exact AllReadyH.nil
        case rest =>
          clear HSS HD6 HP6 p0 p1 p2 hk12
          obtain ⟨E, m2, c2, A2, zs2, rfl, hEw, hm2, HK8, HD8, HE8, HL2, HQ2⟩ := hcut
          have hEl : E < wc.heap.size := HE8.out.lt
          have hw6 := HK8.out.size
          have hHw6 : H < w6.heap.size := by omega
          have hbE : b < E := by omega
          have HEN : Hid (EnSt b E wc f t2 A2 m2 c2 zs 0 none 0 0 (fun j => j) wc) := Lib.hid ⟨Leaves.refl _ _, HE8.out, World.ownsRow_nil _ _ _ _, fun j hj => by omega, hbE, hEl⟩
          obtain ⟨i0, hi0, hz0, hz1, hz2⟩ := info_parts str_all
          have HI := Lib.hid hi0
          have HZ0 := Lib.hid hz0
          have HZ1 := Lib.hid hz1
          have HZ2 := Lib.hid hz2
          clear hi0 hz0 hz1 hz2 HE8
          go_wp2_with fail
          go_loopw [13] (fun ix wq => ∃ (i nr : Nat) (Ar : Option Addr) (cr : Nat) (ι : Nat → Nat), i ≤ m ∧ ix = .int .i64 i ∧ Hid (EnSt b E wc f t2 A2 m2 c2 zs i Ar nr cr ι wq) ∧ Hid (Keeps b w6 wq) ∧ Hid (IsDeck wq b)) (fun ix _ => m - (intOf ix).toNat)
          case atStart => exact ⟨0, 0, none, 0, _, Nat.zero_le _, rfl, HEN, HK8, HD8⟩
          case round =>
            clear HEN HK8 HD8
            obtain ⟨i, nr, Ar, cr, ι, hi, rfl, HEN, HKQ, HDQ⟩ := hrel
            have HSQ := Lib.hid (HS6.out.next HKQ.out)
            have HOQ := Lib.hid HSQ.out.o
            obtain ⟨o0, o1, o2⟩ := HOQ.out.rules
            by_cases him : i < m
            · have hi1 : (i : Int) < m := by omega
              have hi0 : (0 : Int) ≤ i := by omega
              go_wp2_with fail
              refine (next_any b 4 _ HDQ.out (by omega) (by omega)).mono ?_
              rintro r wn ⟨v, rfl, v0, v1, hk, hd⟩
              replace HEN := Lib.hid (HEN.out.keeps hk)
              replace HKQ := Lib.hid (HKQ.out.trans hk)
              replace HSQ := Lib.hid (HSQ.out.next hk)
              replace HOQ := Lib.hid HSQ.out.o
              replace HDQ := Lib.hid hd
              clear hk hd o0 o1 o2
              by_cases hv : v = 1
              · subst hv
                have hg : ∃ bl ol, Al = some ⟨bl, ol, none⟩ ∧ bl < wn.heap.size ∧ wn.cell? ⟨bl, ol + i * 10 + 1, none⟩ = some (.string (zs i).1.name) := by
                  obtain ⟨bl, ol, e, hb, hc⟩ := HSQ.out.x.l1 (by omega)
                  have h1 := hc (i * 10 + 1) (by omega)
                  rw [show rowF 10 clC zs (i * 10 + 1) = .string (zs i).1.name by unfold rowF; rw [show (i * 10 + 1) / 10 = i by omega, show (i * 10 + 1) % 10 = 1 by omega]; rfl, ← Nat.add_assoc] at h1
                  exact ⟨bl, ol, e, hb.2.2, h1⟩
                obtain ⟨bl, ol, hA, hbl, hcn⟩ := hg
                subst hA
                have HBX := Lib.hid HEN.out.en
                have HRW := Lib.hid HEN.out.row
                have hnr := HEN.out.sub.few
                have hwn : wc.heap.size ≤ wn.heap.size := HEN.out.l.size
                have HBW : Hid (Below wn.heap.size wn wn.drew) := Lib.hid (Below.refl _ _).drew
                obtain ⟨nm, hnm⟩ : ∃ z, (zs i).1.name = z := ⟨_, rfl⟩
                have HNM := Lib.hid hnm
                rw [hnm] at hcn
                clear hnm
                have hsqo := HSQ.out.ord
                clear HSQ
                obtain ⟨o0, o1, o2⟩ := HOQ.out.rules
                obtain ⟨b0, b1, b2⟩ := HBX.out.rules
                go_upto_region 13 with (fail)
                go_region_law (first
                  | (refine step_append_lies _ (by rfl) _ _ _ (by rfl) wc.heap.size 9 i0 _ 1 16 Tryz.underlying40 HI.out HZ0.out HZ1.out HZ2.out rfl (by omega) (.slice Ar nr cr) nr (rowL nr fun j => .string (zs (ι j)).1.name) (by rfl) ((HRW.out.alloc _).drew) ⟨wn.heap.size, 0, none⟩ 1 1 [.string nm] (by rfl) (by rfl) (World.news_of_block (cs := #[.string nm]) (t := 9) (fr := (0, 0)) (heap_alloc_new wn _)) (fun u hu => by rw [List.mem_singleton] at hu; subst hu; rfl) (by omega) (by unfold maxLen; omega) (by omega) (by simp; omega) (wn.heap.size + 1) (by simp) ?_; intro gg cap w9 hown hgrow hat hlt9; (have hgz := fun j => (World.cell?_of_block (w := wn.alloc (.cells #[.string nm] 9)) (a := ⟨E, j, none⟩) (hgrow.block E (by simp; omega) (fun e => by have := (own_lt HRW.out e.symm).2; omega)))); (have hgf := fun j => (World.frozen?_of_block (w := wn.alloc (.cells #[.string nm] 9)) (a := ⟨E, j, none⟩) (hgrow.block E (by simp; omega) (fun e => by have := (own_lt HRW.out e.symm).2; omega))))))
                all_goals
                  rw [← HNM.out] at hown
                  obtain ⟨hs9, hb9⟩ := HEN.out.append (W := wn.drew) HBW.out hgrow hown
                  have HS9 := Lib.hid hs9
                  have HK9 := Lib.hid (HKQ.out.then hb9 hEw)
                  have HD9 := Lib.hid (HDQ.out.below hb9 hbE)
                  clear hown hgrow hat hgz hgf hlt9 hs9 hb9 HEN HBX HOQ HRW HBW HKQ HDQ o0 o1 b0 b1
                  go_wp2_with fail
                  go_roundw
                  case rel => exact ⟨i + 1, nr + 1, _, _, _, by omega, by go_num, HS9, HK9, HD9⟩
                  case measure => simp [intOf]; omega
              · have q1 : (v == 1) = false := by simpa using hv
                go_wp2_with fail
                go_roundw
                case rel => exact ⟨i + 1, nr, Ar, cr, ι, by omega, by go_num, Lib.hid HEN.out.more, HKQ, HDQ⟩
                case measure => simp [intOf]; omega
            · obtain rfl : m = i := by omega
              have hdd : decide ((m : Int) < m) = false := by rw [decide_eq_false_iff_not]; omega
              clear him
              go_wp2_with fail
              refine (next_any b 6 _ HDQ.out (by omega) (by omega)).mono ?_
              rintro r wn ⟨v, rfl, v0, v1, hk, hd⟩
              replace HEN := Lib.hid (HEN.out.keeps hk)
              replace HKQ := Lib.hid (HKQ.out.trans hk)
              replace HSQ := Lib.hid (HSQ.out.next hk)
              replace HOQ := Lib.hid HSQ.out.o
              replace HDQ := Lib.hid hd
              clear hk hd o0 o1 o2
              have hsqo := HSQ.out.ord
              have hwn : wc.heap.size ≤ wn.heap.size := HEN.out.l.size
              go_upto_if 75 with (fail)
              go_cut [10] (fun kx wx => kx = .int .i64 k ∧ ∃ (y : En) (a : NA), Hid (Has wx E (y.cells a) 49) ∧ Hid (enQ (fun q => G + 1 < q ∧ q ≠ H ∧ q ≠ E ∧ q < wx.heap.size) wx (y, a)) ∧ Hid (Keeps b w6 wx) ∧ Hid (IsDeck wx b))
              case first =>
                by_cases hv : v = 5
                · subst hv
                  have hg : ∃ bl ol, Al = some ⟨bl, ol, none⟩ ∧ bl < wn.heap.size ∧ wn.rangeAt bl ol ((zs 0).1.cells (zs 0).2).toList := by
                    obtain ⟨bl, ol, e, hb, hc⟩ := HSQ.out.x.l1 (by omega)
                    exact ⟨bl, ol, e, hb.2.2, Cl.range fun j hj => by
                      have h1 := hc j (by omega)
                      rw [show rowF 10 clC zs j = (zs 0).1.cell (zs 0).2 j by unfold rowF; rw [show j / 10 = 0 by omega, show j % 10 = j by omega]] at h1
                      exact h1⟩
                  obtain ⟨bl, ol, hA, hbl, hrg⟩ := hg
                  have HZQ := Lib.hid (HSQ.out.x.q1 0 (by omega))
                  have HZE : Hid (ClIn (fun q => tS G H wn q ∧ q ≠ E) wn (zs 0).1 (zs 0).2) := Lib.hid (((HS6.out.x.q1 0 (by omega)).1).keep (fun q o hS => World.cell?_of_block (w := w6) (HKQ.out.block q hS.2.2 (by have := hS.1; omega))) (fun q hS => ⟨tS.up HKQ.out.size q hS, by have := hS.2.2; omega⟩))
                  obtain ⟨x0, x1, x2, x3, x4, x5, hcs, _, hc1⟩ := Cl.cells_ex (zs 0).1 (zs 0).2
                  rw [hcs] at hrg
                  have HRG := Lib.hid hrg
                  have HCS := Lib.hid hcs
                  have HC1 := Lib.hid (List.all_eq_true.1 hc1)
                  have HBX := Lib.hid HEN.out.en
                  obtain ⟨x, hx⟩ : ∃ z, zs 0 = z := ⟨_, rfl⟩
                  rw [hx] at HZQ HZE HRG HCS HC1
                  subst hA
                  clear hrg hcs hc1 hx HI HZ0 HZ1 HZ2 i0
                  obtain ⟨i0, hi0, hz0, hz1, hz2⟩ := info_parts cl_all
                  have HI := Lib.hid hi0
                  have HZ0 := Lib.hid hz0
                  have HZ1 := Lib.hid hz1
                  have HZ2 := Lib.hid hz2
                  have HCI := Lib.hid cl_info
                  clear hi0 hz0 hz1 hz2
                  obtain ⟨o0, o1, o2⟩ := HOQ.out.rules
                  obtain ⟨b0, b1, b2⟩ := HBX.out.rules
                  obtain ⟨kd, hkd⟩ : ∃ z, x.1.kind = z := ⟨_, rfl⟩
                  obtain ⟨nm, hnm⟩ : ∃ z, x.1.name = z := ⟨_, rfl⟩
                  obtain ⟨am, ham⟩ : ∃ z, x.1.amt = z := ⟨_, rfl⟩
                  obtain ⟨n2, hn2⟩ : ∃ z, x.1.n = z := ⟨_, rfl⟩
                  obtain ⟨A3, hA3⟩ : ∃ z, x.2.A = z := ⟨_, rfl⟩
                  obtain ⟨c3, hc3⟩ : ∃ z, x.2.c = z := ⟨_, rfl⟩
                  rw [hkd, hnm, ham, hn2, hA3, hc3] at HRG HCS HC1
                  clear hkd hnm ham hn2 hA3 hc3
                  have hrg2 : (wn.alloc (.cells #[] 46)).rangeAt bl ol [.int .i64 kd, .string nm, x0, x1, x2, x3, x4, x5, .slice A3 n2 c3, .int .i64 am] := fun j u hj => by rw [World.cell?_alloc_old wn _ _ (show bl ≠ wn.heap.size by omega)]; exact HRG.out j u hj
                  have HRG2 := Lib.hid hrg2
                  clear hrg2
                  have HO0 := Lib.hid (own_empty wn 46 10)
                  have HBE : Hid (Below wn.heap.size wn (wn.alloc (.cells #[] 46))) := Lib.hid (Below.alloc (Below.refl _ _) (Nat.le_refl _) _)
                  have HBX0 := Lib.hid (HBX.out.alloc (.cells #[] 46))
                  have HSZ : Hid ((wn.alloc (.cells #[] 46)).heap.size = wn.heap.size + 1) := Lib.hid (by simp)
                  go_wp2_with (first
                    | (refine wpList_load_mid ?_ 46 (.tmp 79) ?_ bl ol ?_ _ _ HRG2.out Tryz.underlying46 ?_ HCI.out ?_; rfl; rfl; rfl; rfl; (obtain ⟨wE, hwE⟩ : ∃ z, wn.alloc (.cells #[] 46) = z := ⟨_, rfl⟩); (obtain ⟨Q, hQ⟩ : ∃ z, wn.heap.size = z := ⟨_, rfl⟩); rw [hwE] at HO0 HBE HBX0 HSZ ⊢; (have HQ3 := Lib.hid hQ); (have hQw : wc.heap.size ≤ Q := by omega); rw [hQ] at HO0 HSZ ⊢; clear hwE hQ; (obtain ⟨l0, hl0⟩ : ∃ z : Nat, z = 0 := ⟨0, rfl⟩); (obtain ⟨p0, hp0⟩ : ∃ z : Nat, z = 0 := ⟨0, rfl⟩); (have hsv : Value.slice (some ⟨Q, 0, none⟩) 0 0 = Value.slice (some ⟨Q, 0, none⟩) l0 p0 := by rw [hl0, hp0]); rw [hsv] at HO0 ⊢; clear hsv hl0 hp0; (obtain ⟨d0, d1, d2⟩ := HBX0.out.rules); (have hQs : Q < wE.heap.size := by have := HSZ.out; omega))
                    | (at_builtin; refine wpList_append_lies _ rfl _ _ 22 rfl Q 46 i0 _ 10 144 Tryz.underlying22 HI.out HZ0.out HZ1.out HZ2.out rfl (by omega) _ 0 [] rfl (HO0.out.alloc _) ⟨wE.heap.size, 0, none⟩ 1 1 [.int .i64 kd, .string nm, x0, x1, x2, x3, x4, x5, .slice A3 n2 c3, .int .i64 am] rfl rfl (World.news_of_block (cs := #[.int .i64 kd, .string nm, x0, x1, x2, x3, x4, x5, .slice A3 n2 c3, .int .i64 am]) (t := 46) (fr := (0, 0)) (heap_alloc_new wE _)) HC1.out (by omega) (by unfold maxLen; omega) (by omega) (by simp; omega) (wE.heap.size + 1) (by simp) ?_; intro g2 cap2 w7 hown hgrow hat hlt7; (have hgz := fun j => (World.cell?_of_block (w := wE.alloc (.cells #[.int .i64 kd, .string nm, x0, x1, x2, x3, x4, x5, .slice A3 n2 c3, .int .i64 am] 46)) (a := ⟨E, j, none⟩) (hgrow.block E (by simp; omega) (fun e => absurd (show E = Q by injection e) (by omega))))); (have hgf := fun j => (World.frozen?_of_block (w := wE.alloc (.cells #[.int .i64 kd, .string nm, x0, x1, x2, x3, x4, x5, .slice A3 n2 c3, .int .i64 am] 46)) (a := ⟨E, j, none⟩) (hgrow.block E (by simp; omega) (fun e => absurd (show E = Q by injection e) (by omega)))))))
                  have hQe : Q = wn.heap.size := HQ3.out.symm
                  rw [Nat.zero_add, List.nil_append] at hown
                  try rw [Nat.zero_add]
                  have hq7 : ∀ q, (Value.slice (some ⟨Q, 0, none⟩) l0 p0).ownBlock = some q → wn.heap.size ≤ q := fun q hq => by
                    have h9 : Q = q := by injection hq
                    omega
                  have hb7 : Below wn.heap.size wn w7 := Below.grown (Below.alloc HBE.out (by omega) _) hgrow (by simp; omega) hq7
                  have hlt := own_lt (k := g2) hown rfl
                  have hone := HEN.out.one (G := G) (H := H) (cap := cap2) HZQ.out (fun _ _ _ => trivial) hb7 ⟨by omega, hlt.1⟩ (fun j hj => by
                    have hc := hown.cellAt j (by omega)
                    rw [hc]
                    have h2 := Cl.cells_get x.1 x.2 j hj
                    rw [HCS.out] at h2
                    exact h2) hm7 HU.out (.inl rfl) ⟨hf, hft, htm⟩ ⟨by omega, by omega, by omega, by omega⟩ HZE.out rfl
                  have HONE := Lib.hid hone
                  have hb8 : Below E wn (w7.setCell ⟨E, 3, none⟩ (.slice (some ⟨g2, 0, none⟩) 1 cap2)) := Below.setCell (hb7.mono (by omega)) (Nat.le_refl E) _
                  have HK9 := Lib.hid (HKQ.out.then hb8 hEw)
                  have HD9 := Lib.hid (HDQ.out.below hb8 hbE)
                  clear hown hgrow hat hgz hgf hlt7 hb7 hlt hone hb8 HEN HBX HOQ HKQ HDQ HZQ HZE HRG HRG2 HCS HC1 HO0 HBE HBX0 HSZ HQ3 hQe hQs hq7 d0 d1 d2 o0 o1 b0 b1
                  go_wp2_with fail
                  go_meet
                  case rel => exact ⟨rfl, _, _, Lib.hid HONE.out.1, Lib.hid HONE.out.2, HK9, HD9⟩
                · have q1 : (v == 5) = false := by simpa using hv
                  have hy := HEN.out.done (G := G) (H := H) HL2.out HQ2.out (by omega) hm7 HU.out (.inl rfl) ⟨hf, hft, htm⟩ ⟨by omega, by omega, by omega⟩ hw6
                  have HY := Lib.hid hy
                  have HBX := Lib.hid HEN.out.en
                  clear hy
                  go_wp2_with fail
                  go_meet
                  case rel => exact ⟨rfl, ⟨f, t2, nr, fun j => (zs (ι j)).1.name, m2, fun j => (zs2 j).1⟩, ⟨Ar, cr, A2, c2⟩, HBX, HY, HKQ, HDQ⟩
              case rest =>
                clear HEN HKQ HSQ HOQ HDQ HL2 HQ2 hwn hsqo HI HZ0 HZ1 HZ2 i0 v0 v1
                obtain ⟨rfl, y, a, HBX, HYQ, HKQ, HDQ⟩ := hcut
                have hwE : w6.heap.size ≤ wc.heap.size := HKQ.out.size
                have HSQ := Lib.hid (HS6.out.next HKQ.out)
                have HOQ := Lib.hid HSQ.out.o
                have hsqo := HSQ.out.ord
                obtain ⟨pf, pt, nr9, rm9, nc9, cs9⟩ := y
                obtain ⟨Ar9, cr9, Ac9, cc9⟩ := a
                replace HBX : Hid (Has wc E #[.int .i64 pf, .int .i64 pt, .slice Ar9 nr9 cr9, .slice Ac9 nc9 cc9] 49) := HBX
                obtain ⟨o0, o1, o2⟩ := HOQ.out.rules
                go_upto_region 17 with (fail)
                have HY := Lib.hid (Has.new wc #[.slice Al m cl, .slice Ae ne ce] 25)
                have HBX9 := Lib.hid (HBX.out.alloc (.cells #[.slice Al m cl, .slice Ae ne ce] 25))
                have HO9 := Lib.hid (HOQ.out.alloc (.cells #[.slice Al m cl, .slice Ae ne ce] 25))
                have HK9 := Lib.hid (HKQ.out.alloc (.cells #[.slice Al m cl, .slice Ae ne ce] 25))
                have HD9 : Hid (IsDeck (wc.alloc (.cells #[.slice Al m cl, .slice Ae ne ce] 25)) b) := Lib.hid (HDQ.out.alloc _)
                have HKW : Hid (∀ q, q < wc.heap.size → (wc.alloc (.cells #[.slice Al m cl, .slice Ae ne ce] 25)).heap[q]? = wc.heap[q]?) := Lib.hid fun q hq => Below.heap_alloc wc _ q hq
                obtain ⟨Y, hY⟩ : ∃ z, wc.heap.size = z := ⟨_, rfl⟩
                obtain ⟨wd, hwd⟩ : ∃ z, wc.alloc (.cells #[.slice Al m cl, .slice Ae ne ce] 25) = z := ⟨_, rfl⟩
                rw [hwd] at HY HBX9 HO9 HK9 HD9 HKW ⊢
                rw [hY] at HY ⊢
                have HYE := Lib.hid hY
                have hYd : Y < wd.heap.size := HY.out.lt
                have hEY : E < Y := by have := HBX.out.lt; omega
                have hHY : H < Y := by have := HOQ.out.lt; omega
                clear hwd hY o0 o1 o2
                obtain ⟨i0, hi0, hz0, hz1, hz2⟩ := info_parts en_all
                have HI := Lib.hid hi0
                have HZ0 := Lib.hid hz0
                have HZ1 := Lib.hid hz1
                have HZ2 := Lib.hid hz2
                clear hi0 hz0 hz1 hz2
                have HSC : Hid (∀ V : World, (∀ q, q < Y → V.heap[q]? = wd.heap[q]?) → V.cell? ⟨H, 1, none⟩ = some (.slice Ae ne ce) ∧ (V.cell? ⟨E, 0, none⟩ = some (.int .i64 pf) ∧ V.cell? ⟨E, 1, none⟩ = some (.int .i64 pt)) ∧ V.cell? ⟨E, 2, none⟩ = some (.slice Ar9 nr9 cr9) ∧ V.cell? ⟨E, 3, none⟩ = some (.slice Ac9 nc9 cc9)) := Lib.hid fun V hq =>
                  have hE : Has V E _ _ := (hq E hEY).trans HBX9.out
                  have hO : Has V H _ _ := (hq H hHY).trans HO9.out
                  ⟨by rw [hO.cell]; rfl, ⟨by rw [hE.cell]; rfl, by rw [hE.cell]; rfl⟩, by rw [hE.cell]; rfl, by rw [hE.cell]; rfl⟩
                have HBC : Hid (Below wd.heap.size wd wd.drew) := Lib.hid (Below.drew (Below.refl _ _))
                have HCN : Hid (∀ u ∈ ([.int .i64 pf, .int .i64 pt, .slice Ar9 nr9 cr9, .slice Ac9 nc9 cc9] : List Value), u.oneCell' = true) := Lib.hid (List.all_eq_true.1 rfl)
                go_cut [10] from 85 to 92 (fun kx wx => kx = .int .i64 k ∧ ∃ g2 cap2 : Nat, ne + 1 ≤ cap2 ∧ Hid (Has wx Y #[.slice Al m cl, .slice (some ⟨g2, 0, none⟩) (ne + 1) cap2] 25) ∧ Hid (WrdI (fun q => G + 1 < q ∧ q ≠ H ∧ q ≠ Y ∧ q < wx.heap.size) wx Al (some ⟨g2, 0, none⟩) m (ne + 1) zs (updN ys ne (⟨pf, pt, nr9, rm9, nc9, cs9⟩, ⟨Ar9, cr9, Ac9, cc9⟩))) ∧ Hid (Keeps b w6 wx) ∧ Hid (IsDeck wx b))
                case first =>
                  have HEND : Hid (∀ (wG V : World) (g2 cap2 B : Nat), Below wd.heap.size wd wG → wd.heap.size ≤ B → wG.ownsRow B 49 4 (.slice (some ⟨g2, 0, none⟩) (ne + 1) cap2) (ne + 1) (rowL (ne * 4) (rowF 4 enC ys) ++ [.int .i64 pf, .int .i64 pt, .slice Ar9 nr9 cr9, .slice Ac9 nc9 cc9]) → V = wG.setCell ⟨Y, 1, none⟩ (.slice (some ⟨g2, 0, none⟩) (ne + 1) cap2) → ne + 1 ≤ cap2 ∧ Hid (Has V Y #[.slice Al m cl, .slice (some ⟨g2, 0, none⟩) (ne + 1) cap2] 25) ∧ Hid (WrdI (fun q => G + 1 < q ∧ q ≠ H ∧ q ≠ Y ∧ q < V.heap.size) V Al (some ⟨g2, 0, none⟩) m (ne + 1) zs (updN ys ne (⟨pf, pt, nr9, rm9, nc9, cs9⟩, ⟨Ar9, cr9, Ac9, cc9⟩))) ∧ Hid (Keeps b w6 V) ∧ Hid (IsDeck V b)) := Lib.hid fun wG V g2 cap2 B hb hB ho hV => by
                    have hs := hb.size
                    have hYE := HYE.out
                    have hbV : Below Y wd V := by rw [hV]; exact Below.setCell (hb.mono (by omega)) (Nat.le_refl Y) _
                    have hoV : V.ownsRow B 49 4 (.slice (some ⟨g2, 0, none⟩) (ne + 1) cap2) (ne + 1) (rowL (ne * 4) (rowF 4 enC ys) ++ [.int .i64 pf, .int .i64 pt, .slice Ar9 nr9 cr9, .slice Ac9 nc9 cc9]) := by
                      rw [hV]; exact own_keeps (b := Y) ho ((Keeps.refl Y wG).put 1 _) (by omega)
                    refine ⟨own_cap ho, Lib.hid ?_, Lib.hid (HSQ.out.x.push (fun q hq => ⟨hq.1, hq.2.1, hq.2.2.2⟩) HYQ.out hYE (fun q hq => (hbV.block q hq).trans (HKW.out q (by omega))) hoV (by omega) (by have := hbV.size; omega) ⟨hsqo.2, hHY⟩), Lib.hid (HK9.out.then hbV (by omega)), Lib.hid (HD9.out.below hbV (by omega))⟩
                    rw [hV]
                    exact Has.put (cs := #[.slice Al m cl, .slice Ae ne ce]) (HY.out.below hb hYd) 1 _
                  by_cases hn0 : ne = 0
                  · obtain ⟨rfl, rfl⟩ := HNL.out hn0
                    subst hn0
                    refine wp_region_held_drew (S := fun V => V.cell? ⟨H, 1, none⟩ = some (.slice none 0 0) ∧ (V.cell? ⟨E, 0, none⟩ = some (.int .i64 pf) ∧ V.cell? ⟨E, 1, none⟩ = some (.int .i64 pt)) ∧ V.cell? ⟨E, 2, none⟩ = some (.slice Ar9 nr9 cr9) ∧ V.cell? ⟨E, 3, none⟩ = some (.slice Ac9 nc9 cc9)) (by kernel_rfl) (HSC.out _ (fun q hq => HBC.out.block q (by omega))) (fun hHeld => ?_)
                    refine wpAnyH_take (i := 1) (v := ?v17) rfl (by kernel_rfl) (by kernel_rfl) (by kernel_rfl) (fun _ _ _ h => h) (Or.inl ⟨by rfl, ?hy17⟩) (by assumption) ?rest17
                    case hy17 => (intro wx hSw; (try dsimp only at hSw); go_simp; try with_reducible rfl)
                    try simp only [Act.put, List.setIfInBounds_toArray, List.set_cons_zero, List.set_cons_succ]
                    refine wpAnyH_take (i := 2) (v := ?v18) rfl (by kernel_rfl) (by kernel_rfl) (by kernel_rfl) (fun _ _ _ h => h) (Or.inl ⟨by rfl, ?hy18⟩) (by assumption) ?rest18
                    case hy18 => (intro wx hSw; (try dsimp only at hSw); go_simp; try with_reducible rfl)
                    try simp only [Act.put, List.setIfInBounds_toArray, List.set_cons_zero, List.set_cons_succ]
                    refine wpAnyH_take (i := 4) (v := ?v19) rfl (by kernel_rfl) (by kernel_rfl) (by kernel_rfl) (fun _ _ _ h => h) (Or.inl ⟨by rfl, ?hy19⟩) (by assumption) ?rest19
                    case hy19 => (intro wx hSw; (try dsimp only at hSw); go_simp; try with_reducible rfl)
                    show wpAnyH _ _ _ _ _ _ _ (Act.put _ (some 89) _) _
                    try simp only [Act.put, List.setIfInBounds_toArray, List.set_cons_zero, List.set_cons_succ]
                    refine wpAnyH_ready (rs := [0, 5]) (by kernel_rfl) (by simp) ?_
                    refine AllReadyH.cons rfl (fun K hK => ?_) ?_
                    · go_simp; try rw [show (wd.alloc (.cells #[] 49)).drew = wd.drew.alloc (.cells #[] 49) from rfl]
                      have hs0 := HBC.out.size
                      have HO0 := Lib.hid (own_empty wd.drew 49 4)
                      have hsz : (wd.drew.alloc (.cells #[] 49)).heap.size = wd.drew.heap.size + 1 := by simp
                      replace HBC := Lib.hid (HBC.out.alloc hs0 (.cells #[] 49))
                      obtain ⟨wE, hwE⟩ : ∃ z, wd.drew.alloc (.cells #[] 49) = z := ⟨_, rfl⟩
                      obtain ⟨Em, hEm⟩ : ∃ z, wd.drew.heap.size = z := ⟨_, rfl⟩
                      have hEmw : wd.heap.size ≤ Em := by rw [← hEm]; exact hs0
                      rw [hwE] at HBC hsz HO0 ⊢
                      rw [hEm] at hsz HO0
                      try rw [hEm]
                      try rw [show wd.heap.size = Em from hEm]
                      have hEml : Em < wE.heap.size := by omega
                      clear hsz hwE hEm hs0
                      refine hK.out _ _ ?_ (fun hHeld => ?_)
                      · exact HSC.out _ (fun q hq => HBC.out.block q (by omega))
                      clear hK K
                      try simp only [Act.put, List.setIfInBounds_toArray, List.set_cons_zero, List.set_cons_succ]
                      refine wpAnyH_ready (rs := [3, 5]) (by kernel_rfl) (by simp) ?_
                      refine AllReadyH.cons rfl (fun K hK => ?_) ?_
                      · refine step_append_none (by rfl) _ _ _ (by rfl) Em 49 i0 4 Tryz.underlying23 HI.out (.slice (some ⟨Em, 0, none⟩) 0 0) 0 [] (by rfl) HO0.out (by rfl) ?_
                        show K (Act.put _ (some 88) _) _
                        refine hK.out _ _ ?_ (fun hHeld => ?_)
                        · exact HSC.out _ (fun q hq => HBC.out.block q (by omega))
                        clear hK K
                        try simp only [Act.put, List.setIfInBounds_toArray, List.set_cons_zero, List.set_cons_succ]
                        refine wpAnyH_ready (rs := [5]) (by kernel_rfl) (by simp) ?_
                        refine AllReadyH.cons rfl (fun K hK => ?_) ?_
                        · go_simp
                          have hs0 := HBC.out.size
                          have HC1 := Lib.hid (Has.new wE #[.int .i64 pf, .int .i64 pt, .slice Ar9 nr9 cr9, .slice Ac9 nc9 cc9] 49)
                          have hsz : (wE.alloc (.cells #[.int .i64 pf, .int .i64 pt, .slice Ar9 nr9 cr9, .slice Ac9 nc9 cc9] 49)).heap.size = wE.heap.size + 1 := by simp
                          replace HO0 := Lib.hid (HO0.out.alloc (.cells #[.int .i64 pf, .int .i64 pt, .slice Ar9 nr9 cr9, .slice Ac9 nc9 cc9] 49))
                          replace HBC := Lib.hid (HBC.out.alloc hs0 (.cells #[.int .i64 pf, .int .i64 pt, .slice Ar9 nr9 cr9, .slice Ac9 nc9 cc9] 49))
                          obtain ⟨wB, hwB⟩ : ∃ z, wE.alloc (.cells #[.int .i64 pf, .int .i64 pt, .slice Ar9 nr9 cr9, .slice Ac9 nc9 cc9] 49) = z := ⟨_, rfl⟩
                          obtain ⟨C1, hC1⟩ : ∃ z, wE.heap.size = z := ⟨_, rfl⟩
                          have hC1w : wd.heap.size ≤ C1 := by rw [← hC1]; exact hs0
                          rw [hwB] at HBC hsz HC1 HO0 ⊢
                          rw [hC1] at hsz HC1
                          try rw [hC1]
                          try rw [show wd.heap.size = C1 from hC1]
                          have hC1l : C1 < wB.heap.size := by omega
                          have hne : C1 ≠ Em := by omega
                          have hEl2 : Em < wB.heap.size := by omega
                          clear hEml
                          have hEml := hEl2
                          clear hEl2
                          clear hsz hwB hC1 hs0
                          refine hK.out _ _ ?_ (fun hHeld => ?_)
                          · exact HSC.out _ (fun q hq => HBC.out.block q (by omega))
                          clear hK K
                          try simp only [Act.put, List.setIfInBounds_toArray, List.set_cons_zero, List.set_cons_succ]
                          refine wpAnyH_ready (rs := [6]) (by kernel_rfl) (by simp) ?_
                          refine AllReadyH.cons rfl (fun K hK => ?_) ?_
                          · have hs0 := HBC.out.size
                            refine step_append_lies _ (by rfl) _ _ _ (by rfl) Em 49 i0 _ 4 64 Tryz.underlying23 HI.out HZ0.out HZ1.out HZ2.out rfl (by omega) (.slice (some ⟨Em, 0, none⟩) 0 0) 0 [] (by rfl) HO0.out ⟨C1, 0, none⟩ 1 1 [.int .i64 pf, .int .i64 pt, .slice Ar9 nr9 cr9, .slice Ac9 nc9 cc9] (by rfl) rfl (World.news_of_block (cs := #[.int .i64 pf, .int .i64 pt, .slice Ar9 nr9 cr9, .slice Ac9 nc9 cc9]) (t := 49) (fr := (0, 0)) HC1.out) HCN.out (by omega) (by unfold maxLen; omega) (by omega) (by omega) _ rfl ?_
                            intro g2 cap2 wG hown hgrow hat hlt
                            show K (Act.put _ (some 91) _) _
                            have hbase := fun k hk => (own_lt (k := k) HO0.out hk).2
                            replace HBC := Lib.hid (HBC.out.grown hgrow hs0 (fun k hk => by have := hbase k hk; omega))
                            have HO2 := Lib.hid hown
                            have HYG := Lib.hid (HY.out.below HBC.out hYd)
                            clear hown hgrow hat hlt hs0 HO0 HC1 hbase
                            refine hK.out _ _ ?_ (fun hHeld => ?_)
                            · exact HSC.out _ (fun q hq => HBC.out.block q (by omega))
                            clear hK K
                            try simp only [Act.put, List.setIfInBounds_toArray, List.set_cons_zero, List.set_cons_succ]
                            refine wpAnyH_take (i := 7) (v := ?v20) rfl (by kernel_rfl) (by kernel_rfl) (by kernel_rfl) (fun _ _ _ h => h) (Or.inl ⟨by rfl, ?hy20⟩) (by assumption) ?rest20
                            case hy20 => (intro wx hSw; (try dsimp only at hSw); go_simp; try with_reducible rfl)
                            try simp only [Act.put, List.setIfInBounds_toArray, List.set_cons_zero, List.set_cons_succ]
                            refine wpAnyH_ready (rs := [8]) (by kernel_rfl) (by simp) ?_
                            refine AllReadyH.cons rfl (fun K hK => ?_) ?_
                            · obtain ⟨y0, y1, y2⟩ := HYG.out.rules
                              go_simp
                              obtain ⟨wT, hwT⟩ : ∃ z, wG.setCell ⟨Y, 1, none⟩ (.slice (some ⟨g2, 0, none⟩) (0 + 1) cap2) = z := ⟨_, rfl⟩
                              have HTQ : Hid (∀ q, q < Y → wT.heap[q]? = wd.heap[q]?) := Lib.hid (fun q hq => by rw [← hwT, Below.heap_setCell wG ⟨Y, 1, none⟩ _ q (show q ≠ Y by omega)]; exact HBC.out.block q (by omega))
                              have HFIN := Lib.hid (HEND.out wG wT g2 cap2 Em HBC.out hEmw HO2.out hwT.symm)
                              try rw [hwT]
                              clear y0 y1 y2 hwT
                              refine hK.out _ _ ?_ (fun hHeld => ?_)
                              · exact HSC.out _ HTQ.out
                              clear hK K
                              try simp only [Act.put, List.setIfInBounds_toArray, List.set_cons_zero, List.set_cons_succ]
                              refine wpAnyH_done (by kernel_rfl) ?_ _
                              go_wp2_with fail
                              go_meet
                              case rel => exact ⟨rfl, g2, cap2, HFIN.out⟩
                            exact AllReadyH.nil
                          exact AllReadyH.nil
                        exact AllReadyH.nil
                      refine AllReadyH.cons rfl (fun K hK => ?_) ?_
                      · go_simp
                        have hs0 := HBC.out.size
                        have HC1 := Lib.hid (Has.new wE #[.int .i64 pf, .int .i64 pt, .slice Ar9 nr9 cr9, .slice Ac9 nc9 cc9] 49)
                        have hsz : (wE.alloc (.cells #[.int .i64 pf, .int .i64 pt, .slice Ar9 nr9 cr9, .slice Ac9 nc9 cc9] 49)).heap.size = wE.heap.size + 1 := by simp
                        replace HO0 := Lib.hid (HO0.out.alloc (.cells #[.int .i64 pf, .int .i64 pt, .slice Ar9 nr9 cr9, .slice Ac9 nc9 cc9] 49))
                        replace HBC := Lib.hid (HBC.out.alloc hs0 (.cells #[.int .i64 pf, .int .i64 pt, .slice Ar9 nr9 cr9, .slice Ac9 nc9 cc9] 49))
                        obtain ⟨wB, hwB⟩ : ∃ z, wE.alloc (.cells #[.int .i64 pf, .int .i64 pt, .slice Ar9 nr9 cr9, .slice Ac9 nc9 cc9] 49) = z := ⟨_, rfl⟩
                        obtain ⟨C1, hC1⟩ : ∃ z, wE.heap.size = z := ⟨_, rfl⟩
                        have hC1w : wd.heap.size ≤ C1 := by rw [← hC1]; exact hs0
                        rw [hwB] at HBC hsz HC1 HO0 ⊢
                        rw [hC1] at hsz HC1
                        try rw [hC1]
                        try rw [show wd.heap.size = C1 from hC1]
                        have hC1l : C1 < wB.heap.size := by omega
                        have hne : C1 ≠ Em := by omega
                        have hEl2 : Em < wB.heap.size := by omega
                        clear hEml
                        have hEml := hEl2
                        clear hEl2
                        clear hsz hwB hC1 hs0
                        refine hK.out _ _ ?_ (fun hHeld => ?_)
                        · exact HSC.out _ (fun q hq => HBC.out.block q (by omega))
                        clear hK K
                        try simp only [Act.put, List.setIfInBounds_toArray, List.set_cons_zero, List.set_cons_succ]
                        refine wpAnyH_ready (rs := [3]) (by kernel_rfl) (by simp) ?_
                        refine AllReadyH.cons rfl (fun K hK => ?_) ?_
                        · refine step_append_none (by rfl) _ _ _ (by rfl) Em 49 i0 4 Tryz.underlying23 HI.out (.slice (some ⟨Em, 0, none⟩) 0 0) 0 [] (by rfl) HO0.out (by rfl) ?_
                          show K (Act.put _ (some 88) _) _
                          refine hK.out _ _ ?_ (fun hHeld => ?_)
                          · exact HSC.out _ (fun q hq => HBC.out.block q (by omega))
                          clear hK K
                          try simp only [Act.put, List.setIfInBounds_toArray, List.set_cons_zero, List.set_cons_succ]
                          refine wpAnyH_ready (rs := [6]) (by kernel_rfl) (by simp) ?_
                          refine AllReadyH.cons rfl (fun K hK => ?_) ?_
                          · have hs0 := HBC.out.size
                            refine step_append_lies _ (by rfl) _ _ _ (by rfl) Em 49 i0 _ 4 64 Tryz.underlying23 HI.out HZ0.out HZ1.out HZ2.out rfl (by omega) (.slice (some ⟨Em, 0, none⟩) 0 0) 0 [] (by rfl) HO0.out ⟨C1, 0, none⟩ 1 1 [.int .i64 pf, .int .i64 pt, .slice Ar9 nr9 cr9, .slice Ac9 nc9 cc9] (by rfl) rfl (World.news_of_block (cs := #[.int .i64 pf, .int .i64 pt, .slice Ar9 nr9 cr9, .slice Ac9 nc9 cc9]) (t := 49) (fr := (0, 0)) HC1.out) HCN.out (by omega) (by unfold maxLen; omega) (by omega) (by omega) _ rfl ?_
                            intro g2 cap2 wG hown hgrow hat hlt
                            show K (Act.put _ (some 91) _) _
                            have hbase := fun k hk => (own_lt (k := k) HO0.out hk).2
                            replace HBC := Lib.hid (HBC.out.grown hgrow hs0 (fun k hk => by have := hbase k hk; omega))
                            have HO2 := Lib.hid hown
                            have HYG := Lib.hid (HY.out.below HBC.out hYd)
                            clear hown hgrow hat hlt hs0 HO0 HC1 hbase
                            refine hK.out _ _ ?_ (fun hHeld => ?_)
                            · exact HSC.out _ (fun q hq => HBC.out.block q (by omega))
                            clear hK K
                            try simp only [Act.put, List.setIfInBounds_toArray, List.set_cons_zero, List.set_cons_succ]
                            refine wpAnyH_take (i := 7) (v := ?v21) rfl (by kernel_rfl) (by kernel_rfl) (by kernel_rfl) (fun _ _ _ h => h) (Or.inl ⟨by rfl, ?hy21⟩) (by assumption) ?rest21
                            case hy21 => (intro wx hSw; (try dsimp only at hSw); go_simp; try with_reducible rfl)
                            try simp only [Act.put, List.setIfInBounds_toArray, List.set_cons_zero, List.set_cons_succ]
                            refine wpAnyH_ready (rs := [8]) (by kernel_rfl) (by simp) ?_
                            refine AllReadyH.cons rfl (fun K hK => ?_) ?_
                            · obtain ⟨y0, y1, y2⟩ := HYG.out.rules
                              go_simp
                              obtain ⟨wT, hwT⟩ : ∃ z, wG.setCell ⟨Y, 1, none⟩ (.slice (some ⟨g2, 0, none⟩) (0 + 1) cap2) = z := ⟨_, rfl⟩
                              have HTQ : Hid (∀ q, q < Y → wT.heap[q]? = wd.heap[q]?) := Lib.hid (fun q hq => by rw [← hwT, Below.heap_setCell wG ⟨Y, 1, none⟩ _ q (show q ≠ Y by omega)]; exact HBC.out.block q (by omega))
                              have HFIN := Lib.hid (HEND.out wG wT g2 cap2 Em HBC.out hEmw HO2.out hwT.symm)
                              try rw [hwT]
                              clear y0 y1 y2 hwT
                              refine hK.out _ _ ?_ (fun hHeld => ?_)
                              · exact HSC.out _ HTQ.out
                              clear hK K
                              try simp only [Act.put, List.setIfInBounds_toArray, List.set_cons_zero, List.set_cons_succ]
                              refine wpAnyH_done (by kernel_rfl) ?_ _
                              go_wp2_with fail
                              go_meet
                              case rel => exact ⟨rfl, g2, cap2, HFIN.out⟩
                            exact AllReadyH.nil
                          exact AllReadyH.nil
                        exact AllReadyH.nil
                      exact AllReadyH.nil
                    refine AllReadyH.cons rfl (fun K hK => ?_) ?_
                    · go_simp; try rw [show (wd.alloc (.cells #[.int .i64 pf, .int .i64 pt, .slice Ar9 nr9 cr9, .slice Ac9 nc9 cc9] 49)).drew = wd.drew.alloc (.cells #[.int .i64 pf, .int .i64 pt, .slice Ar9 nr9 cr9, .slice Ac9 nc9 cc9] 49) from rfl]
                      have hs0 := HBC.out.size
                      have HC1 := Lib.hid (Has.new wd.drew #[.int .i64 pf, .int .i64 pt, .slice Ar9 nr9 cr9, .slice Ac9 nc9 cc9] 49)
                      have hsz : (wd.drew.alloc (.cells #[.int .i64 pf, .int .i64 pt, .slice Ar9 nr9 cr9, .slice Ac9 nc9 cc9] 49)).heap.size = wd.drew.heap.size + 1 := by simp
                      replace HBC := Lib.hid (HBC.out.alloc hs0 (.cells #[.int .i64 pf, .int .i64 pt, .slice Ar9 nr9 cr9, .slice Ac9 nc9 cc9] 49))
                      obtain ⟨wB, hwB⟩ : ∃ z, wd.drew.alloc (.cells #[.int .i64 pf, .int .i64 pt, .slice Ar9 nr9 cr9, .slice Ac9 nc9 cc9] 49) = z := ⟨_, rfl⟩
                      obtain ⟨C1, hC1⟩ : ∃ z, wd.drew.heap.size = z := ⟨_, rfl⟩
                      have hC1w : wd.heap.size ≤ C1 := by rw [← hC1]; exact hs0
                      rw [hwB] at HBC hsz HC1 ⊢
                      rw [hC1] at hsz HC1
                      try rw [hC1]
                      try rw [show wd.heap.size = C1 from hC1]
                      have hC1l : C1 < wB.heap.size := by omega
                      clear hsz hwB hC1 hs0
                      refine hK.out _ _ ?_ (fun hHeld => ?_)
                      · exact HSC.out _ (fun q hq => HBC.out.block q (by omega))
                      clear hK K
                      try simp only [Act.put, List.setIfInBounds_toArray, List.set_cons_zero, List.set_cons_succ]
                      refine wpAnyH_ready (rs := [0]) (by kernel_rfl) (by simp) ?_
                      refine AllReadyH.cons rfl (fun K hK => ?_) ?_
                      · go_simp
                        have hs0 := HBC.out.size
                        have HO0 := Lib.hid (own_empty wB 49 4)
                        have hsz : (wB.alloc (.cells #[] 49)).heap.size = wB.heap.size + 1 := by simp
                        replace HC1 := Lib.hid (HC1.out.alloc (.cells #[] 49))
                        replace HBC := Lib.hid (HBC.out.alloc hs0 (.cells #[] 49))
                        obtain ⟨wE, hwE⟩ : ∃ z, wB.alloc (.cells #[] 49) = z := ⟨_, rfl⟩
                        obtain ⟨Em, hEm⟩ : ∃ z, wB.heap.size = z := ⟨_, rfl⟩
                        have hEmw : wd.heap.size ≤ Em := by rw [← hEm]; exact hs0
                        rw [hwE] at HBC hsz HO0 HC1 ⊢
                        rw [hEm] at hsz HO0
                        try rw [hEm]
                        try rw [show wd.heap.size = Em from hEm]
                        have hEml : Em < wE.heap.size := by omega
                        have hne : C1 ≠ Em := by omega
                        clear hsz hwE hEm hs0
                        refine hK.out _ _ ?_ (fun hHeld => ?_)
                        · exact HSC.out _ (fun q hq => HBC.out.block q (by omega))
                        clear hK K
                        try simp only [Act.put, List.setIfInBounds_toArray, List.set_cons_zero, List.set_cons_succ]
                        refine wpAnyH_ready (rs := [3]) (by kernel_rfl) (by simp) ?_
                        refine AllReadyH.cons rfl (fun K hK => ?_) ?_
                        · refine step_append_none (by rfl) _ _ _ (by rfl) Em 49 i0 4 Tryz.underlying23 HI.out (.slice (some ⟨Em, 0, none⟩) 0 0) 0 [] (by rfl) HO0.out (by rfl) ?_
                          show K (Act.put _ (some 88) _) _
                          refine hK.out _ _ ?_ (fun hHeld => ?_)
                          · exact HSC.out _ (fun q hq => HBC.out.block q (by omega))
                          clear hK K
                          try simp only [Act.put, List.setIfInBounds_toArray, List.set_cons_zero, List.set_cons_succ]
                          refine wpAnyH_ready (rs := [6]) (by kernel_rfl) (by simp) ?_
                          refine AllReadyH.cons rfl (fun K hK => ?_) ?_
                          · have hs0 := HBC.out.size
                            refine step_append_lies _ (by rfl) _ _ _ (by rfl) Em 49 i0 _ 4 64 Tryz.underlying23 HI.out HZ0.out HZ1.out HZ2.out rfl (by omega) (.slice (some ⟨Em, 0, none⟩) 0 0) 0 [] (by rfl) HO0.out ⟨C1, 0, none⟩ 1 1 [.int .i64 pf, .int .i64 pt, .slice Ar9 nr9 cr9, .slice Ac9 nc9 cc9] (by rfl) rfl (World.news_of_block (cs := #[.int .i64 pf, .int .i64 pt, .slice Ar9 nr9 cr9, .slice Ac9 nc9 cc9]) (t := 49) (fr := (0, 0)) HC1.out) HCN.out (by omega) (by unfold maxLen; omega) (by omega) (by omega) _ rfl ?_
                            intro g2 cap2 wG hown hgrow hat hlt
                            show K (Act.put _ (some 91) _) _
                            have hbase := fun k hk => (own_lt (k := k) HO0.out hk).2
                            replace HBC := Lib.hid (HBC.out.grown hgrow hs0 (fun k hk => by have := hbase k hk; omega))
                            have HO2 := Lib.hid hown
                            have HYG := Lib.hid (HY.out.below HBC.out hYd)
                            clear hown hgrow hat hlt hs0 HO0 HC1 hbase
                            refine hK.out _ _ ?_ (fun hHeld => ?_)
                            · exact HSC.out _ (fun q hq => HBC.out.block q (by omega))
                            clear hK K
                            try simp only [Act.put, List.setIfInBounds_toArray, List.set_cons_zero, List.set_cons_succ]
                            refine wpAnyH_take (i := 7) (v := ?v22) rfl (by kernel_rfl) (by kernel_rfl) (by kernel_rfl) (fun _ _ _ h => h) (Or.inl ⟨by rfl, ?hy22⟩) (by assumption) ?rest22
                            case hy22 => (intro wx hSw; (try dsimp only at hSw); go_simp; try with_reducible rfl)
                            try simp only [Act.put, List.setIfInBounds_toArray, List.set_cons_zero, List.set_cons_succ]
                            refine wpAnyH_ready (rs := [8]) (by kernel_rfl) (by simp) ?_
                            refine AllReadyH.cons rfl (fun K hK => ?_) ?_
                            · obtain ⟨y0, y1, y2⟩ := HYG.out.rules
                              go_simp
                              obtain ⟨wT, hwT⟩ : ∃ z, wG.setCell ⟨Y, 1, none⟩ (.slice (some ⟨g2, 0, none⟩) (0 + 1) cap2) = z := ⟨_, rfl⟩
                              have HTQ : Hid (∀ q, q < Y → wT.heap[q]? = wd.heap[q]?) := Lib.hid (fun q hq => by rw [← hwT, Below.heap_setCell wG ⟨Y, 1, none⟩ _ q (show q ≠ Y by omega)]; exact HBC.out.block q (by omega))
                              have HFIN := Lib.hid (HEND.out wG wT g2 cap2 Em HBC.out hEmw HO2.out hwT.symm)
                              try rw [hwT]
                              clear y0 y1 y2 hwT
                              refine hK.out _ _ ?_ (fun hHeld => ?_)
                              · exact HSC.out _ HTQ.out
                              clear hK K
                              try simp only [Act.put, List.setIfInBounds_toArray, List.set_cons_zero, List.set_cons_succ]
                              refine wpAnyH_done (by kernel_rfl) ?_ _
                              go_wp2_with fail
                              go_meet
                              case rel => exact ⟨rfl, g2, cap2, HFIN.out⟩
                            exact AllReadyH.nil
                          exact AllReadyH.nil
                        exact AllReadyH.nil
                      exact AllReadyH.nil
                    exact AllReadyH.nil
                  · have hsrc : ∃ bl ol, Ae = some ⟨bl, ol, none⟩ ∧ bl < wd.heap.size ∧ ∀ j, j < ne * 4 → wd.cell? ⟨bl, ol + j, none⟩ = some (rowF 4 enC ys j) := by
                      obtain ⟨bl, ol, e, hb, hc⟩ := HSQ.out.x.l2 (by omega)
                      have hYE := HYE.out
                      exact ⟨bl, ol, e, by have := hb.2.2; omega, fun j hj => by rw [World.cell?_of_block (w := wc) (HKW.out bl (by have := hb.2.2; omega))]; exact hc j hj⟩
                    obtain ⟨bl, ol, rfl, hbl, hcs⟩ := hsrc
                    have HSRC := Lib.hid (rowE_src hcs hbl)
                    clear hcs
                    refine wp_region_held_drew (S := fun V => V.cell? ⟨H, 1, none⟩ = some (.slice (some ⟨bl, ol, none⟩) ne ce) ∧ (V.cell? ⟨E, 0, none⟩ = some (.int .i64 pf) ∧ V.cell? ⟨E, 1, none⟩ = some (.int .i64 pt)) ∧ V.cell? ⟨E, 2, none⟩ = some (.slice Ar9 nr9 cr9) ∧ V.cell? ⟨E, 3, none⟩ = some (.slice Ac9 nc9 cc9)) (by kernel_rfl) (HSC.out _ (fun q hq => HBC.out.block q (by omega))) (fun hHeld => ?_)
                    refine wpAnyH_take (i := 1) (v := ?v23) rfl (by kernel_rfl) (by kernel_rfl) (by kernel_rfl) (fun _ _ _ h => h) (Or.inl ⟨by rfl, ?hy23⟩) (by assumption) ?rest23
                    case hy23 => (intro wx hSw; (try dsimp only at hSw); go_simp; try with_reducible rfl)
                    try simp only [Act.put, List.setIfInBounds_toArray, List.set_cons_zero, List.set_cons_succ]
                    refine wpAnyH_take (i := 2) (v := ?v24) rfl (by kernel_rfl) (by kernel_rfl) (by kernel_rfl) (fun _ _ _ h => h) (Or.inl ⟨by rfl, ?hy24⟩) (by assumption) ?rest24
                    case hy24 => (intro wx hSw; (try dsimp only at hSw); go_simp; try with_reducible rfl)
                    try simp only [Act.put, List.setIfInBounds_toArray, List.set_cons_zero, List.set_cons_succ]
                    refine wpAnyH_take (i := 4) (v := ?v25) rfl (by kernel_rfl) (by kernel_rfl) (by kernel_rfl) (fun _ _ _ h => h) (Or.inl ⟨by rfl, ?hy25⟩) (by assumption) ?rest25
                    case hy25 => (intro wx hSw; (try dsimp only at hSw); go_simp; try with_reducible rfl)
                    show wpAnyH _ _ _ _ _ _ _ (Act.put _ (some 89) _) _
                    try simp only [Act.put, List.setIfInBounds_toArray, List.set_cons_zero, List.set_cons_succ]
                    refine wpAnyH_ready (rs := [0, 5]) (by kernel_rfl) (by simp) ?_
                    refine AllReadyH.cons rfl (fun K hK => ?_) ?_
                    · go_simp; try rw [show (wd.alloc (.cells #[] 49)).drew = wd.drew.alloc (.cells #[] 49) from rfl]
                      have hs0 := HBC.out.size
                      have HO0 := Lib.hid (own_empty wd.drew 49 4)
                      have hsz : (wd.drew.alloc (.cells #[] 49)).heap.size = wd.drew.heap.size + 1 := by simp
                      replace HBC := Lib.hid (HBC.out.alloc hs0 (.cells #[] 49))
                      obtain ⟨wE, hwE⟩ : ∃ z, wd.drew.alloc (.cells #[] 49) = z := ⟨_, rfl⟩
                      obtain ⟨Em, hEm⟩ : ∃ z, wd.drew.heap.size = z := ⟨_, rfl⟩
                      have hEmw : wd.heap.size ≤ Em := by rw [← hEm]; exact hs0
                      rw [hwE] at HBC hsz HO0 ⊢
                      rw [hEm] at hsz HO0
                      try rw [hEm]
                      try rw [show wd.heap.size = Em from hEm]
                      have hEml : Em < wE.heap.size := by omega
                      clear hsz hwE hEm hs0
                      refine hK.out _ _ ?_ (fun hHeld => ?_)
                      · exact HSC.out _ (fun q hq => HBC.out.block q (by omega))
                      clear hK K
                      try simp only [Act.put, List.setIfInBounds_toArray, List.set_cons_zero, List.set_cons_succ]
                      refine wpAnyH_ready (rs := [3, 5]) (by kernel_rfl) (by simp) ?_
                      refine AllReadyH.cons rfl (fun K hK => ?_) ?_
                      · have hs0 := HBC.out.size
                        refine step_append_lies _ (by rfl) _ _ _ (by rfl) Em 49 i0 _ 4 64 Tryz.underlying23 HI.out HZ0.out HZ1.out HZ2.out rfl (by omega) (.slice (some ⟨Em, 0, none⟩) 0 0) 0 [] (by rfl) HO0.out ⟨bl, ol, none⟩ ne ce (rowL (ne * 4) (rowF 4 enC ys)) (by rfl) (rowL_length _ _) (HSRC.out _ HBC.out) rowE_one (by omega) (by unfold maxLen; omega) (by omega) (by omega) _ rfl ?_
                        intro g1 cap1 wF hown hgrow hat hlt
                        rw [Nat.zero_add, List.nil_append] at hown
                        rw [Nat.zero_add]
                        show K (Act.put _ (some 88) _) _
                        have HO1 := Lib.hid hown
                        have hrow : ∀ k, (Value.slice (some ⟨Em, 0, none⟩) 0 0).ownBlock = some k → k = Em := fun k hk => by injection hk with hk; exact hk.symm
                        replace HBC := Lib.hid (HBC.out.grown hgrow hs0 (fun k hk => by have := hrow k hk; omega))
                        have hEl2 : Em < wF.heap.size := by have := hgrow.size; omega
                        clear hown hgrow hat hlt hrow hs0 hEml HO0
                        have hEml := hEl2
                        clear hEl2
                        refine hK.out _ _ ?_ (fun hHeld => ?_)
                        · exact HSC.out _ (fun q hq => HBC.out.block q (by omega))
                        clear hK K
                        try simp only [Act.put, List.setIfInBounds_toArray, List.set_cons_zero, List.set_cons_succ]
                        refine wpAnyH_ready (rs := [5]) (by kernel_rfl) (by simp) ?_
                        refine AllReadyH.cons rfl (fun K hK => ?_) ?_
                        · go_simp
                          have hs0 := HBC.out.size
                          have HC1 := Lib.hid (Has.new wF #[.int .i64 pf, .int .i64 pt, .slice Ar9 nr9 cr9, .slice Ac9 nc9 cc9] 49)
                          have hsz : (wF.alloc (.cells #[.int .i64 pf, .int .i64 pt, .slice Ar9 nr9 cr9, .slice Ac9 nc9 cc9] 49)).heap.size = wF.heap.size + 1 := by simp
                          replace HO1 := Lib.hid (HO1.out.alloc (.cells #[.int .i64 pf, .int .i64 pt, .slice Ar9 nr9 cr9, .slice Ac9 nc9 cc9] 49))
                          replace HBC := Lib.hid (HBC.out.alloc hs0 (.cells #[.int .i64 pf, .int .i64 pt, .slice Ar9 nr9 cr9, .slice Ac9 nc9 cc9] 49))
                          obtain ⟨wB, hwB⟩ : ∃ z, wF.alloc (.cells #[.int .i64 pf, .int .i64 pt, .slice Ar9 nr9 cr9, .slice Ac9 nc9 cc9] 49) = z := ⟨_, rfl⟩
                          obtain ⟨C1, hC1⟩ : ∃ z, wF.heap.size = z := ⟨_, rfl⟩
                          have hC1w : wd.heap.size ≤ C1 := by rw [← hC1]; exact hs0
                          rw [hwB] at HBC hsz HC1 HO1 ⊢
                          rw [hC1] at hsz HC1
                          try rw [hC1]
                          try rw [show wd.heap.size = C1 from hC1]
                          have hC1l : C1 < wB.heap.size := by omega
                          have hne : C1 ≠ Em := by omega
                          have hEl2 : Em < wB.heap.size := by omega
                          clear hEml
                          have hEml := hEl2
                          clear hEl2
                          clear hsz hwB hC1 hs0
                          refine hK.out _ _ ?_ (fun hHeld => ?_)
                          · exact HSC.out _ (fun q hq => HBC.out.block q (by omega))
                          clear hK K
                          try simp only [Act.put, List.setIfInBounds_toArray, List.set_cons_zero, List.set_cons_succ]
                          refine wpAnyH_ready (rs := [6]) (by kernel_rfl) (by simp) ?_
                          refine AllReadyH.cons rfl (fun K hK => ?_) ?_
                          · have hs0 := HBC.out.size
                            refine step_append_lies _ (by rfl) _ _ _ (by rfl) Em 49 i0 _ 4 64 Tryz.underlying23 HI.out HZ0.out HZ1.out HZ2.out rfl (by omega) (.slice (some ⟨g1, 0, none⟩) ne cap1) ne (rowL (ne * 4) (rowF 4 enC ys)) (by rfl) HO1.out ⟨C1, 0, none⟩ 1 1 [.int .i64 pf, .int .i64 pt, .slice Ar9 nr9 cr9, .slice Ac9 nc9 cc9] (by rfl) rfl (World.news_of_block (cs := #[.int .i64 pf, .int .i64 pt, .slice Ar9 nr9 cr9, .slice Ac9 nc9 cc9]) (t := 49) (fr := (0, 0)) HC1.out) HCN.out (by omega) (by unfold maxLen; omega) (by omega) (by omega) _ rfl ?_
                            intro g2 cap2 wG hown hgrow hat hlt
                            show K (Act.put _ (some 91) _) _
                            have hbase := fun k hk => (own_lt (k := k) HO1.out hk).2
                            replace HBC := Lib.hid (HBC.out.grown hgrow hs0 (fun k hk => by have := hbase k hk; omega))
                            have HO2 := Lib.hid hown
                            have HYG := Lib.hid (HY.out.below HBC.out hYd)
                            clear hown hgrow hat hlt hs0 HO1 HC1 hbase
                            refine hK.out _ _ ?_ (fun hHeld => ?_)
                            · exact HSC.out _ (fun q hq => HBC.out.block q (by omega))
                            clear hK K
                            try simp only [Act.put, List.setIfInBounds_toArray, List.set_cons_zero, List.set_cons_succ]
                            refine wpAnyH_take (i := 7) (v := ?v26) rfl (by kernel_rfl) (by kernel_rfl) (by kernel_rfl) (fun _ _ _ h => h) (Or.inl ⟨by rfl, ?hy26⟩) (by assumption) ?rest26
                            case hy26 => (intro wx hSw; (try dsimp only at hSw); go_simp; try with_reducible rfl)
                            try simp only [Act.put, List.setIfInBounds_toArray, List.set_cons_zero, List.set_cons_succ]
                            refine wpAnyH_ready (rs := [8]) (by kernel_rfl) (by simp) ?_
                            refine AllReadyH.cons rfl (fun K hK => ?_) ?_
                            · obtain ⟨y0, y1, y2⟩ := HYG.out.rules
                              go_simp
                              obtain ⟨wT, hwT⟩ : ∃ z, wG.setCell ⟨Y, 1, none⟩ (.slice (some ⟨g2, 0, none⟩) (ne + 1) cap2) = z := ⟨_, rfl⟩
                              have HTQ : Hid (∀ q, q < Y → wT.heap[q]? = wd.heap[q]?) := Lib.hid (fun q hq => by rw [← hwT, Below.heap_setCell wG ⟨Y, 1, none⟩ _ q (show q ≠ Y by omega)]; exact HBC.out.block q (by omega))
                              have HFIN := Lib.hid (HEND.out wG wT g2 cap2 Em HBC.out hEmw HO2.out hwT.symm)
                              try rw [hwT]
                              clear y0 y1 y2 hwT
                              refine hK.out _ _ ?_ (fun hHeld => ?_)
                              · exact HSC.out _ HTQ.out
                              clear hK K
                              try simp only [Act.put, List.setIfInBounds_toArray, List.set_cons_zero, List.set_cons_succ]
                              refine wpAnyH_done (by kernel_rfl) ?_ _
                              go_wp2_with fail
                              go_meet
                              case rel => exact ⟨rfl, g2, cap2, HFIN.out⟩
                            exact AllReadyH.nil
                          exact AllReadyH.nil
                        exact AllReadyH.nil
                      refine AllReadyH.cons rfl (fun K hK => ?_) ?_
                      · go_simp
                        have hs0 := HBC.out.size
                        have HC1 := Lib.hid (Has.new wE #[.int .i64 pf, .int .i64 pt, .slice Ar9 nr9 cr9, .slice Ac9 nc9 cc9] 49)
                        have hsz : (wE.alloc (.cells #[.int .i64 pf, .int .i64 pt, .slice Ar9 nr9 cr9, .slice Ac9 nc9 cc9] 49)).heap.size = wE.heap.size + 1 := by simp
                        replace HO0 := Lib.hid (HO0.out.alloc (.cells #[.int .i64 pf, .int .i64 pt, .slice Ar9 nr9 cr9, .slice Ac9 nc9 cc9] 49))
                        replace HBC := Lib.hid (HBC.out.alloc hs0 (.cells #[.int .i64 pf, .int .i64 pt, .slice Ar9 nr9 cr9, .slice Ac9 nc9 cc9] 49))
                        obtain ⟨wB, hwB⟩ : ∃ z, wE.alloc (.cells #[.int .i64 pf, .int .i64 pt, .slice Ar9 nr9 cr9, .slice Ac9 nc9 cc9] 49) = z := ⟨_, rfl⟩
                        obtain ⟨C1, hC1⟩ : ∃ z, wE.heap.size = z := ⟨_, rfl⟩
                        have hC1w : wd.heap.size ≤ C1 := by rw [← hC1]; exact hs0
                        rw [hwB] at HBC hsz HC1 HO0 ⊢
                        rw [hC1] at hsz HC1
                        try rw [hC1]
                        try rw [show wd.heap.size = C1 from hC1]
                        have hC1l : C1 < wB.heap.size := by omega
                        have hne : C1 ≠ Em := by omega
                        have hEl2 : Em < wB.heap.size := by omega
                        clear hEml
                        have hEml := hEl2
                        clear hEl2
                        clear hsz hwB hC1 hs0
                        refine hK.out _ _ ?_ (fun hHeld => ?_)
                        · exact HSC.out _ (fun q hq => HBC.out.block q (by omega))
                        clear hK K
                        try simp only [Act.put, List.setIfInBounds_toArray, List.set_cons_zero, List.set_cons_succ]
                        refine wpAnyH_ready (rs := [3]) (by kernel_rfl) (by simp) ?_
                        refine AllReadyH.cons rfl (fun K hK => ?_) ?_
                        · have hs0 := HBC.out.size
                          refine step_append_lies _ (by rfl) _ _ _ (by rfl) Em 49 i0 _ 4 64 Tryz.underlying23 HI.out HZ0.out HZ1.out HZ2.out rfl (by omega) (.slice (some ⟨Em, 0, none⟩) 0 0) 0 [] (by rfl) HO0.out ⟨bl, ol, none⟩ ne ce (rowL (ne * 4) (rowF 4 enC ys)) (by rfl) (rowL_length _ _) (HSRC.out _ HBC.out) rowE_one (by omega) (by unfold maxLen; omega) (by omega) (by omega) _ rfl ?_
                          intro g1 cap1 wF hown hgrow hat hlt
                          rw [Nat.zero_add, List.nil_append] at hown
                          rw [Nat.zero_add]
                          show K (Act.put _ (some 88) _) _
                          have HO1 := Lib.hid hown
                          have hrow : ∀ k, (Value.slice (some ⟨Em, 0, none⟩) 0 0).ownBlock = some k → k = Em := fun k hk => by injection hk with hk; exact hk.symm
                          replace HC1 : Hid (Has wF C1 #[.int .i64 pf, .int .i64 pt, .slice Ar9 nr9 cr9, .slice Ac9 nc9 cc9] 49) := Lib.hid ((hgrow.block C1 HC1.out.lt (fun e => hne (hrow _ e.symm))).trans HC1.out)
                          replace HBC := Lib.hid (HBC.out.grown hgrow hs0 (fun k hk => by have := hrow k hk; omega))
                          have hEl2 : Em < wF.heap.size := by have := hgrow.size; omega
                          clear hown hgrow hat hlt hrow hs0 hEml HO0
                          have hEml := hEl2
                          clear hEl2
                          refine hK.out _ _ ?_ (fun hHeld => ?_)
                          · exact HSC.out _ (fun q hq => HBC.out.block q (by omega))
                          clear hK K
                          try simp only [Act.put, List.setIfInBounds_toArray, List.set_cons_zero, List.set_cons_succ]
                          refine wpAnyH_ready (rs := [6]) (by kernel_rfl) (by simp) ?_
                          refine AllReadyH.cons rfl (fun K hK => ?_) ?_
                          · have hs0 := HBC.out.size
                            refine step_append_lies _ (by rfl) _ _ _ (by rfl) Em 49 i0 _ 4 64 Tryz.underlying23 HI.out HZ0.out HZ1.out HZ2.out rfl (by omega) (.slice (some ⟨g1, 0, none⟩) ne cap1) ne (rowL (ne * 4) (rowF 4 enC ys)) (by rfl) HO1.out ⟨C1, 0, none⟩ 1 1 [.int .i64 pf, .int .i64 pt, .slice Ar9 nr9 cr9, .slice Ac9 nc9 cc9] (by rfl) rfl (World.news_of_block (cs := #[.int .i64 pf, .int .i64 pt, .slice Ar9 nr9 cr9, .slice Ac9 nc9 cc9]) (t := 49) (fr := (0, 0)) HC1.out) HCN.out (by omega) (by unfold maxLen; omega) (by omega) (by omega) _ rfl ?_
                            intro g2 cap2 wG hown hgrow hat hlt
                            show K (Act.put _ (some 91) _) _
                            have hbase := fun k hk => (own_lt (k := k) HO1.out hk).2
                            replace HBC := Lib.hid (HBC.out.grown hgrow hs0 (fun k hk => by have := hbase k hk; omega))
                            have HO2 := Lib.hid hown
                            have HYG := Lib.hid (HY.out.below HBC.out hYd)
                            clear hown hgrow hat hlt hs0 HO1 HC1 hbase
                            refine hK.out _ _ ?_ (fun hHeld => ?_)
                            · exact HSC.out _ (fun q hq => HBC.out.block q (by omega))
                            clear hK K
                            try simp only [Act.put, List.setIfInBounds_toArray, List.set_cons_zero, List.set_cons_succ]
                            refine wpAnyH_take (i := 7) (v := ?v27) rfl (by kernel_rfl) (by kernel_rfl) (by kernel_rfl) (fun _ _ _ h => h) (Or.inl ⟨by rfl, ?hy27⟩) (by assumption) ?rest27
                            case hy27 => (intro wx hSw; (try dsimp only at hSw); go_simp; try with_reducible rfl)
                            try simp only [Act.put, List.setIfInBounds_toArray, List.set_cons_zero, List.set_cons_succ]
                            refine wpAnyH_ready (rs := [8]) (by kernel_rfl) (by simp) ?_
                            refine AllReadyH.cons rfl (fun K hK => ?_) ?_
                            · obtain ⟨y0, y1, y2⟩ := HYG.out.rules
                              go_simp
                              obtain ⟨wT, hwT⟩ : ∃ z, wG.setCell ⟨Y, 1, none⟩ (.slice (some ⟨g2, 0, none⟩) (ne + 1) cap2) = z := ⟨_, rfl⟩
                              have HTQ : Hid (∀ q, q < Y → wT.heap[q]? = wd.heap[q]?) := Lib.hid (fun q hq => by rw [← hwT, Below.heap_setCell wG ⟨Y, 1, none⟩ _ q (show q ≠ Y by omega)]; exact HBC.out.block q (by omega))
                              have HFIN := Lib.hid (HEND.out wG wT g2 cap2 Em HBC.out hEmw HO2.out hwT.symm)
                              try rw [hwT]
                              clear y0 y1 y2 hwT
                              refine hK.out _ _ ?_ (fun hHeld => ?_)
                              · exact HSC.out _ HTQ.out
                              clear hK K
                              try simp only [Act.put, List.setIfInBounds_toArray, List.set_cons_zero, List.set_cons_succ]
                              refine wpAnyH_done (by kernel_rfl) ?_ _
                              go_wp2_with fail
                              go_meet
                              case rel => exact ⟨rfl, g2, cap2, HFIN.out⟩
                            exact AllReadyH.nil
                          exact AllReadyH.nil
                        exact AllReadyH.nil
                      exact AllReadyH.nil
                    refine AllReadyH.cons rfl (fun K hK => ?_) ?_
                    · go_simp; try rw [show (wd.alloc (.cells #[.int .i64 pf, .int .i64 pt, .slice Ar9 nr9 cr9, .slice Ac9 nc9 cc9] 49)).drew = wd.drew.alloc (.cells #[.int .i64 pf, .int .i64 pt, .slice Ar9 nr9 cr9, .slice Ac9 nc9 cc9] 49) from rfl]
                      have hs0 := HBC.out.size
                      have HC1 := Lib.hid (Has.new wd.drew #[.int .i64 pf, .int .i64 pt, .slice Ar9 nr9 cr9, .slice Ac9 nc9 cc9] 49)
                      have hsz : (wd.drew.alloc (.cells #[.int .i64 pf, .int .i64 pt, .slice Ar9 nr9 cr9, .slice Ac9 nc9 cc9] 49)).heap.size = wd.drew.heap.size + 1 := by simp
                      replace HBC := Lib.hid (HBC.out.alloc hs0 (.cells #[.int .i64 pf, .int .i64 pt, .slice Ar9 nr9 cr9, .slice Ac9 nc9 cc9] 49))
                      obtain ⟨wB, hwB⟩ : ∃ z, wd.drew.alloc (.cells #[.int .i64 pf, .int .i64 pt, .slice Ar9 nr9 cr9, .slice Ac9 nc9 cc9] 49) = z := ⟨_, rfl⟩
                      obtain ⟨C1, hC1⟩ : ∃ z, wd.drew.heap.size = z := ⟨_, rfl⟩
                      have hC1w : wd.heap.size ≤ C1 := by rw [← hC1]; exact hs0
                      rw [hwB] at HBC hsz HC1 ⊢
                      rw [hC1] at hsz HC1
                      try rw [hC1]
                      try rw [show wd.heap.size = C1 from hC1]
                      have hC1l : C1 < wB.heap.size := by omega
                      clear hsz hwB hC1 hs0
                      refine hK.out _ _ ?_ (fun hHeld => ?_)
                      · exact HSC.out _ (fun q hq => HBC.out.block q (by omega))
                      clear hK K
                      try simp only [Act.put, List.setIfInBounds_toArray, List.set_cons_zero, List.set_cons_succ]
                      refine wpAnyH_ready (rs := [0]) (by kernel_rfl) (by simp) ?_
                      refine AllReadyH.cons rfl (fun K hK => ?_) ?_
                      · go_simp
                        have hs0 := HBC.out.size
                        have HO0 := Lib.hid (own_empty wB 49 4)
                        have hsz : (wB.alloc (.cells #[] 49)).heap.size = wB.heap.size + 1 := by simp
                        replace HC1 := Lib.hid (HC1.out.alloc (.cells #[] 49))
                        replace HBC := Lib.hid (HBC.out.alloc hs0 (.cells #[] 49))
                        obtain ⟨wE, hwE⟩ : ∃ z, wB.alloc (.cells #[] 49) = z := ⟨_, rfl⟩
                        obtain ⟨Em, hEm⟩ : ∃ z, wB.heap.size = z := ⟨_, rfl⟩
                        have hEmw : wd.heap.size ≤ Em := by rw [← hEm]; exact hs0
                        rw [hwE] at HBC hsz HO0 HC1 ⊢
                        rw [hEm] at hsz HO0
                        try rw [hEm]
                        try rw [show wd.heap.size = Em from hEm]
                        have hEml : Em < wE.heap.size := by omega
                        have hne : C1 ≠ Em := by omega
                        clear hsz hwE hEm hs0
                        refine hK.out _ _ ?_ (fun hHeld => ?_)
                        · exact HSC.out _ (fun q hq => HBC.out.block q (by omega))
                        clear hK K
                        try simp only [Act.put, List.setIfInBounds_toArray, List.set_cons_zero, List.set_cons_succ]
                        refine wpAnyH_ready (rs := [3]) (by kernel_rfl) (by simp) ?_
                        refine AllReadyH.cons rfl (fun K hK => ?_) ?_
                        · have hs0 := HBC.out.size
                          refine step_append_lies _ (by rfl) _ _ _ (by rfl) Em 49 i0 _ 4 64 Tryz.underlying23 HI.out HZ0.out HZ1.out HZ2.out rfl (by omega) (.slice (some ⟨Em, 0, none⟩) 0 0) 0 [] (by rfl) HO0.out ⟨bl, ol, none⟩ ne ce (rowL (ne * 4) (rowF 4 enC ys)) (by rfl) (rowL_length _ _) (HSRC.out _ HBC.out) rowE_one (by omega) (by unfold maxLen; omega) (by omega) (by omega) _ rfl ?_
                          intro g1 cap1 wF hown hgrow hat hlt
                          rw [Nat.zero_add, List.nil_append] at hown
                          rw [Nat.zero_add]
                          show K (Act.put _ (some 88) _) _
                          have HO1 := Lib.hid hown
                          have hrow : ∀ k, (Value.slice (some ⟨Em, 0, none⟩) 0 0).ownBlock = some k → k = Em := fun k hk => by injection hk with hk; exact hk.symm
                          replace HC1 : Hid (Has wF C1 #[.int .i64 pf, .int .i64 pt, .slice Ar9 nr9 cr9, .slice Ac9 nc9 cc9] 49) := Lib.hid ((hgrow.block C1 HC1.out.lt (fun e => hne (hrow _ e.symm))).trans HC1.out)
                          replace HBC := Lib.hid (HBC.out.grown hgrow hs0 (fun k hk => by have := hrow k hk; omega))
                          have hEl2 : Em < wF.heap.size := by have := hgrow.size; omega
                          clear hown hgrow hat hlt hrow hs0 hEml HO0
                          have hEml := hEl2
                          clear hEl2
                          refine hK.out _ _ ?_ (fun hHeld => ?_)
                          · exact HSC.out _ (fun q hq => HBC.out.block q (by omega))
                          clear hK K
                          try simp only [Act.put, List.setIfInBounds_toArray, List.set_cons_zero, List.set_cons_succ]
                          refine wpAnyH_ready (rs := [6]) (by kernel_rfl) (by simp) ?_
                          refine AllReadyH.cons rfl (fun K hK => ?_) ?_
                          · have hs0 := HBC.out.size
                            refine step_append_lies _ (by rfl) _ _ _ (by rfl) Em 49 i0 _ 4 64 Tryz.underlying23 HI.out HZ0.out HZ1.out HZ2.out rfl (by omega) (.slice (some ⟨g1, 0, none⟩) ne cap1) ne (rowL (ne * 4) (rowF 4 enC ys)) (by rfl) HO1.out ⟨C1, 0, none⟩ 1 1 [.int .i64 pf, .int .i64 pt, .slice Ar9 nr9 cr9, .slice Ac9 nc9 cc9] (by rfl) rfl (World.news_of_block (cs := #[.int .i64 pf, .int .i64 pt, .slice Ar9 nr9 cr9, .slice Ac9 nc9 cc9]) (t := 49) (fr := (0, 0)) HC1.out) HCN.out (by omega) (by unfold maxLen; omega) (by omega) (by omega) _ rfl ?_
                            intro g2 cap2 wG hown hgrow hat hlt
                            show K (Act.put _ (some 91) _) _
                            have hbase := fun k hk => (own_lt (k := k) HO1.out hk).2
                            replace HBC := Lib.hid (HBC.out.grown hgrow hs0 (fun k hk => by have := hbase k hk; omega))
                            have HO2 := Lib.hid hown
                            have HYG := Lib.hid (HY.out.below HBC.out hYd)
                            clear hown hgrow hat hlt hs0 HO1 HC1 hbase
                            refine hK.out _ _ ?_ (fun hHeld => ?_)
                            · exact HSC.out _ (fun q hq => HBC.out.block q (by omega))
                            clear hK K
                            try simp only [Act.put, List.setIfInBounds_toArray, List.set_cons_zero, List.set_cons_succ]
                            refine wpAnyH_take (i := 7) (v := ?v28) rfl (by kernel_rfl) (by kernel_rfl) (by kernel_rfl) (fun _ _ _ h => h) (Or.inl ⟨by rfl, ?hy28⟩) (by assumption) ?rest28
                            case hy28 => (intro wx hSw; (try dsimp only at hSw); go_simp; try with_reducible rfl)
                            try simp only [Act.put, List.setIfInBounds_toArray, List.set_cons_zero, List.set_cons_succ]
                            refine wpAnyH_ready (rs := [8]) (by kernel_rfl) (by simp) ?_
                            refine AllReadyH.cons rfl (fun K hK => ?_) ?_
                            · obtain ⟨y0, y1, y2⟩ := HYG.out.rules
                              go_simp
                              obtain ⟨wT, hwT⟩ : ∃ z, wG.setCell ⟨Y, 1, none⟩ (.slice (some ⟨g2, 0, none⟩) (ne + 1) cap2) = z := ⟨_, rfl⟩
                              have HTQ : Hid (∀ q, q < Y → wT.heap[q]? = wd.heap[q]?) := Lib.hid (fun q hq => by rw [← hwT, Below.heap_setCell wG ⟨Y, 1, none⟩ _ q (show q ≠ Y by omega)]; exact HBC.out.block q (by omega))
                              have HFIN := Lib.hid (HEND.out wG wT g2 cap2 Em HBC.out hEmw HO2.out hwT.symm)
                              try rw [hwT]
                              clear y0 y1 y2 hwT
                              refine hK.out _ _ ?_ (fun hHeld => ?_)
                              · exact HSC.out _ HTQ.out
                              clear hK K
                              try simp only [Act.put, List.setIfInBounds_toArray, List.set_cons_zero, List.set_cons_succ]
                              refine wpAnyH_done (by kernel_rfl) ?_ _
                              go_wp2_with fail
                              go_meet
                              case rel => exact ⟨rfl, g2, cap2, HFIN.out⟩
                            exact AllReadyH.nil
                          exact AllReadyH.nil
                        exact AllReadyH.nil
                      exact AllReadyH.nil
                    exact AllReadyH.nil
                case rest =>
                  have hYl := HYE.out
                  clear HSC HBC HCN HY HBX9 HO9 HK9 HD9 HKW HBX HYQ HKQ HDQ HSQ HOQ HI HZ0 HZ1 HZ2 i0 HYE
                  obtain ⟨rfl, g2, cap2, hcap2, HY, HX9, HKQ, HDQ⟩ := hcut
                  have HSQ := Lib.hid (HS6.out.next HKQ.out)
                  have hYd2 : Y < wc.heap.size := HY.out.lt
                  obtain ⟨ys', hys⟩ : ∃ z, updN ys ne (⟨pf, pt, nr9, rm9, nc9, cs9⟩, ⟨Ar9, cr9, Ac9, cc9⟩) = z := ⟨_, rfl⟩
                  rw [hys] at HX9
                  clear hys
                  have HWQ := Lib.hid (HWE.out (wrX m (ne + 1) zs ys') Al (some ⟨g2, 0, none⟩) cl cap2 wc HSQ.out.k (HX9.out.at (fun q hq => hq.2.2.2) (by omega) (by omega)))
                  have HEQ := Lib.hid HSQ.out.e
                  obtain ⟨e0, e1, e2⟩ := HEQ.out.rules
                  obtain ⟨y0, y1, y2⟩ := HY.out.rules
                  go_wp2_with fail
                  refine HWQ.out.mono ?_
                  rintro r wv ⟨⟨ea, eb, ec, rfl⟩, hbv⟩
                  replace HX9 : Hid (WrdI (fun q => G + 1 < q ∧ q ≠ H ∧ q ≠ Y ∧ q < wv.heap.size) wv Al (some ⟨g2, 0, none⟩) m (ne + 1) zs ys') := Lib.hid (HX9.out.keep (fun q o hq => hbv.cell (p := ⟨q, o, none⟩) hq.2.2.2) (fun q hq => ⟨hq.1, hq.2.1, hq.2.2.1, by have := hbv.size; omega⟩))
                  replace HY := Lib.hid (HY.out.below hbv hYd2)
                  replace HKQ := Lib.hid (HKQ.out.trans (Keeps.of_below hbv b))
                  replace HDQ : Hid (IsDeck wv b) := Lib.hid (HDQ.out.below hbv HDQ.out.lt)
                  replace HSQ := Lib.hid (HS6.out.next HKQ.out)
                  have HOQ := Lib.hid HSQ.out.o
                  clear hbv HWQ HEQ e0 e1 e2 y0 y1 y2
                  obtain ⟨o0, o1, o2⟩ := HOQ.out.rules
                  obtain ⟨y0, y1, y2⟩ := HY.out.rules
                  have hbw : b < w.heap.size := by rw [HGE.out]; exact HSQ.out.ord.1
                  have HST := Lib.hid (HSQ.out.store (cap2 := cap2) HX9.out hbw HGE.out)
                  have HDT : Hid (IsDeck ((wv.setCell ⟨H, 0, none⟩ (.slice Al m cl)).setCell ⟨H, 1, none⟩ (.slice (some ⟨g2, 0, none⟩) (ne + 1) cap2)) b) := Lib.hid ((HDQ.out.far (by simp only; omega) _).far (by simp only; omega) _)
                  by_cases hec : ec = 0
                  · have q1 : (ec == 0) = true := by rw [hec]; rfl
                    go_wp2_with fail
                    go_roundw
                    case rel => exact ⟨k - 1, ne + 1, _, cap2, ys', ⟨by omega, hcap2, fun c => by omega⟩, rfl, HST, HDT⟩
                    case measure => simp [intOf]; omega
                  · have q1 : (ec == 0) = false := by simpa using hec
                    cases sd with
                    | true =>
                      go_wp2_with fail
                      go_roundw
                      case rel => exact ⟨k - 1, ne, Ae, ce, ys, ⟨by omega, hcap, HNL.out⟩, rfl, HSQ, HDQ⟩
                      case measure => simp [intOf]; omega
                    | false =>
                      go_wp2_with fail
                      go_roundw
                      case rel => exact ⟨k - 1, ne + 1, _, cap2, ys', ⟨by omega, hcap2, fun c => by omega⟩, rfl, HST, HDT⟩
                      case measure => simp [intOf]; omega
      · have hge : t2 ≤ f := by omega
        clear hft
        go_wp2_with fail
        go_roundw
        case rel => exact ⟨k - 1, ne, Ae, ce, ys, ⟨by omega, hcap, HNL.out⟩, rfl, HS6, HD6⟩
        case measure => simp [intOf]; omega
    · have hk00 : k = 0 := by omega
      subst hk00
      have HO := Lib.hid HS.out.o
      have HR := Lib.hid HS.out.r
      have HX := Lib.hid HS.out.x
      have HK := Lib.hid HS.out.k
      clear HS
      obtain ⟨o0, o1, o2⟩ := HO.out.rules
      obtain ⟨r0, r1, r2⟩ := HR.out.rules
      have HWI : Hid ((Tryz.prog.info? 25).map (·.size) = some 2) := Lib.hid wr_info
      go_wp2_with fail
      refine bodyPost_ret (results_cell_row rfl _ _ (G + 1) _ _ _ _ ?_ ((HR.out.put 0 (.slice Al m cl)).put 1 (.slice Ae ne ce)) Tryz.underlying25 rfl HWI.out) rfl ?_
      · rfl
      · have hX9 : WrdI (tS G H wr) ((wr.setCell ⟨G + 1, 0, none⟩ (.slice Al m cl)).setCell ⟨G + 1, 1, none⟩ (.slice Ae ne ce)) Al Ae m ne zs ys := HX.out.keep (fun i o hi => by
          rw [World.cell?_setCell_other _ _ _ _ (fun e => by injection e with e; have := hi.1; omega), World.cell?_setCell_other _ _ _ _ (fun e => by injection e with e; have := hi.1; omega)]) (fun _ h => h)
        refine ⟨wrX m ne zs ys, Al, Ae, cl, ce, rfl, fun V hV hs => (hX9.keep (T := fun q => q < V.heap.size) (fun q o hq => World.cell?_of_block (hV q (by have := hq.1; omega) (by have := hq.2.2; simp; omega))) (fun q hq => by have := hq.2.2; simp at hs; omega)).at (fun q hq => hq) (by omega) (by omega), hX9.ok (by omega) (by omega), ⟨show 0 < m by omega, show ne ≤ 2 by omega, hcap, HNL.out⟩, (HK.out.far (by simp only; omega) _).far (by simp only; omega) _, (HD.out.far (by simp only; omega) _).far (by simp only; omega) _⟩
end Go.Proofs.YtlbkhhbbkedhkaaGreatDoor
