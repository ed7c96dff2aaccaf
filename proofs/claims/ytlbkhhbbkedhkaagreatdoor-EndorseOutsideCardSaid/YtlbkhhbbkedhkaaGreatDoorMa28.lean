/- Deck.Clauses. Printed by gen/wfc.py. -/
import Derived.Test.YtlbkhhbbkedhkaaGreatDoorMa27
namespace Go.Proofs.YtlbkhhbbkedhkaaGreatDoor
open Go.RowKit
set_option linter.unusedVariables false
set_option linter.unusedSimpArgs false

set_option maxRecDepth 100000 in
set_option maxHeartbeats 8000000 in
theorem clauses_made (b : Nat) (A : Option Addr) (n c : Nat) (ats : Nat → Att) (p : ByteArray) (N : Nat) (w : World) (hd : IsDeck w b) (hs : SchIn (off b w) w A n ats) (hp : prefP p) (hN : N ≤ 6) :
    Calls Tryz.prog 16 #[.pointer (some ⟨b, 0, none⟩), .agg #[.slice A n c], .int .i64 N, .string p] w (MadeL p N b w) := by
  have HCM : Hid (∀ (kd k : Nat) (An : Option Addr) (nn cn : Nat) (f : Nat → ByteArray) (W : World), IsDeck W b → Keeps b w W → 1 ≤ kd ∧ kd ≤ 10 → k ≤ 6 → NmIn (off b W) W An nn f → Calls Tryz.prog 32 #[.pointer (some ⟨b, 0, none⟩), .agg #[.slice A n c], .int .i64 kd, .string (letL p k), .slice An nn cn] W (MadeC kd (letL p k) b W)) := Lib.hid fun kd k An nn cn f W hd' hk h1 h2 hnm => clause_made b A An n c nn cn ats f kd _ W hd' (hs.keeps hk) hnm h1 (letL_name hp h2)
  have HCM0 : Hid (∀ (W : World), IsDeck W b → Keeps b w W → Calls Tryz.prog 32 #[.pointer (some ⟨b, 0, none⟩), .agg #[.slice A n c], .int .i64 2, .string (letL p 0), .slice none 0 0] W (MadeC 2 (letL p 0) b W)) := Lib.hid fun W hd' hk => HCM.out 2 0 none 0 0 (fun _ => p) W hd' hk (by omega) (by omega) ⟨by omega, CellsS.zero, fun i hi => by omega⟩
  have HLT : Hid (∀ (k : Nat) (W : World), k ≤ 6 → Calls Tryz.prog 33 #[.string p, .int .i64 k] W (fun r w' => r = .returned (.string (letL p k)) ∧ Below W.heap.size W w')) := Lib.hid fun k W h => letters_any p k W h hp.size
  have HLT0 : Hid (∀ (W : World), Calls Tryz.prog 33 #[.string p, .int .i64 0] W (fun r w' => r = .returned (.string (letL p 0)) ∧ Below W.heap.size W w')) := Lib.hid fun W => HLT.out 0 W (by omega)
  have HRC : Hid (∀ (Al : Option Addr) (m d : Nat) (cs : Nat → Cl) (W : World), m ≤ 1000 → (∀ k, k < m → (cs k).ok) → Keeps b w W → ClsAt W W.heap.size Al m cs → Calls Tryz.prog 36 #[.agg #[.slice A n c], .slice Al m d] W (TwoI W)) := Lib.hid fun Al m d cs W h1 h2 hk h3 => rcls_any A Al c n m d ats cs W h1 h2 ((hs.keeps hk).keep (fun _ _ _ => rfl) (fun i hi => hi.2)) h3
  have HD0 := Lib.hid hd
  have hb := hd.lt
  have HCI := Lib.hid cl_info
  have HXI := Lib.hid ex_info
  clear hd hs hp
  obtain ⟨G, hG⟩ : ∃ G, w.heap.size = G := ⟨_, rfl⟩
  have HGE := Lib.hid hG
  go_enter Tryz.func16, Tryz.ntmps16
  go_upto_region 1 with (fail)
  have HK : Hid (Keeps b w (w.alloc (.cells #[.slice A n c] 56))) := Lib.hid ((Keeps.refl b w).alloc _)
  have HE := Lib.hid (Has.new w #[.slice A n c] 56)
  have HD : Hid (IsDeck (w.alloc (.cells #[.slice A n c] 56)) b) := Lib.hid (HD0.out.alloc _)
  obtain ⟨W, hW⟩ : ∃ W, w.alloc (.cells #[.slice A n c] 56) = W := ⟨_, rfl⟩
  rw [hW] at HE HK HD ⊢
  rw [hG] at HE hb
  try rw [hG]
  clear hW hG HD0
  have hGw : w.heap.size = G := HGE.out
  go_upto_region 2 with (fail)
  have HSG : Hid (∀ V, Keeps b W V → V.cell? ⟨G, 0, none⟩ = some (.slice A n c)) := Lib.hid fun V hk => by rw [(HE.out.keeps hk (by omega)).cell]; rfl
  have HBB : Hid (Keeps b W W.drew) := Lib.hid (Keeps.refl _ _).drew
  have HDD : Hid (IsDeck W.drew b) := Lib.hid HD.out.drew
  have hsW : G < W.heap.size := HE.out.lt
  go_region_held3 (fun V => V.cell? ⟨G, 0, none⟩ = some (.slice A n c)) (first | exact HSG.out _ HBB.out | exact HSG.out _ (HBB.out.alloc _)) (first
    | (go_at_call 33; refine (HLT0.out _).mono ?_; rintro r w1 ⟨rfl, hb1⟩; (have hs1 := HBB.out.size); replace HDD : Hid (IsDeck w1 b) := Lib.hid (HDD.out.below hb1 (HDD.out.lt)); replace HBB : Hid (Keeps b W w1) := Lib.hid (HBB.out.then hb1 hs1); clear hb1 hs1)
    | (go_at_call 32; refine (HCM0.out _ HDD.out (HK.out.trans HBB.out)).mono ?_; rintro r w3 ⟨x, a, rfl, hin, ⟨hx1, hx2, hok⟩, hk, hd⟩; (have hs1 := HBB.out.size); (have HIN := Lib.hid (hin.keep (T := fun i => W.heap.size ≤ i ∧ i < w3.heap.size) (fun _ _ _ => rfl) (fun i hi => ⟨by omega, hi.2⟩))); (have HXN := Lib.hid (And.intro hx2 hok)); replace HBB : Hid (Keeps b W w3) := Lib.hid (HBB.out.trans hk); replace HDD := Lib.hid hd; (obtain ⟨x0, x1, x2, x3, x4, x5, hcs, hxe, hc1⟩ := Cl.cells_ex x a); (have HCS := Lib.hid hcs); rw [hcs]; clear hin hx1 hx2 hok hk hd hs1 hcs hxe hc1))
  obtain ⟨H, hH⟩ : ∃ H, w3.heap.size = H := ⟨_, rfl⟩
  have hs3 := HBB.out.size
  have HO := Lib.hid (Has.new w3 (x.cells a) 46)
  rw [hH] at HO
  have HCA : Hid (#[.int .i64 x.kind, .string x.name, x0, x1, x2, x3, x4, x5, .slice a.A x.n a.c, .int .i64 x.amt] = x.cells a) := Lib.hid HCS.out.symm
  rw [HCA.out, hH]
  clear HCS HCA
  replace HIN : Hid (ClIn (fun i => G < i ∧ i ≠ H ∧ i < (w3.alloc (.cells (x.cells a) 46)).heap.size) (w3.alloc (.cells (x.cells a) 46)) x a) := Lib.hid (HIN.out.keep (fun i o hi => World.cell?_alloc_old w3 _ _ (show i ≠ w3.heap.size by omega)) (fun i hi => ⟨by omega, by omega, by simp; omega⟩))
  replace HE := Lib.hid ((HE.out.keeps HBB.out (by omega)).alloc (.cells (x.cells a) 46))
  replace HK := Lib.hid ((HK.out.trans HBB.out).alloc (.cells (x.cells a) 46))
  replace HD := Lib.hid (HDD.out.alloc (.cells (x.cells a) 46))
  have hGH : G < H := by omega
  clear HSG HBB HDD HCM0 HLT0 hs3
  obtain ⟨w4, hw4⟩ : ∃ z, w3.alloc (.cells (x.cells a) 46) = z := ⟨_, rfl⟩
  rw [hw4] at HIN HE HK HD HO ⊢
  clear hw4 hH
  have hlH : H < w4.heap.size := HO.out.lt
  go_wp2_with fail
  refine (next_any b 3 _ HD.out (by omega) (by omega)).mono ?_
  rintro r w5 ⟨v, rfl, v0, v1, hk, hd⟩
  go_upto_if 24 with (fail)
  replace HK := Lib.hid (HK.out.trans hk)
  replace HD := Lib.hid hd
  replace HE := Lib.hid (HE.out.keeps hk (by omega))
  replace HO := Lib.hid (HO.out.keeps hk (by omega))
  have hs5 := hk.size
  replace HIN : Hid (ClIn (fun i => G < i ∧ i ≠ H ∧ i < w5.heap.size) w5 x a) := Lib.hid (HIN.out.keep (fun i o hi => World.cell?_of_block (w := w4) (hk.block i hi.2.2 (by omega))) (fun i hi => ⟨hi.1, hi.2.1, by omega⟩))
  clear hk hd hlH hs5
  go_cut [10] (fun l wx => l = .slice (some ⟨H, 0, none⟩) 1 1 ∧ (∃ zs, Hid (LisC G wx none (some ⟨H, 0, none⟩) 1 zs) ∧ Hid (upN p 1 1 zs fun _ => 0)) ∧ Hid (Has wx G #[.slice A n c] 56) ∧ Hid (Keeps b w wx) ∧ Hid (IsDeck wx b))
  case first =>
    by_cases hv : 0 < v
    · have HTH : Hid (w5.there H 2 6) := Lib.hid (HO.out.there' (show 2 + 6 ≤ 10 by decide))
      have HOC : Hid ((#[.int .i64 1, .string { data := #[] }, .slice none 0 0, .int .i64 0, .int .i64 0, .slice none 0 0] : Array Value).all (·.oneCell') = true) := Lib.hid (by rw [← Array.all_toList]; decide)
      go_wp2_with ((refine wpList_store_mid ?_ 43 (.tmp 28) (.tmp 26) ?_ H 2 #[.int .i64 1, .string { data := #[] }, .slice none 0 0, .int .i64 0, .int .i64 0, .slice none 0 0] ?_ ?_ HTH.out HXI.out HOC.out ?_; rfl; rfl; rfl; rfl))
      have hl := leaves_setCells H trueR 2 w5
      have hs5 : (w5.setCells H 2 trueR).heap.size = w5.heap.size := setCells_size _ _ _ _
      have HO7 := Lib.hid (trueC_has HO.out)
      have HIN7 : Hid (ClIn (fun i => G < i ∧ i ≠ H ∧ i < (w5.setCells H 2 trueR).heap.size) (w5.setCells H 2 trueR) (trueC x) (trueW a)) := Lib.hid (trueC_in (HIN.out.keep (fun i o hi => World.cell?_of_block (w := w5) (hl.block i hi.2.2 hi.2.1)) (fun i hi => by rw [hs5]; exact hi)))
      have HE7 := Lib.hid (HE.out.leaves hl (by omega))
      have HK7 := Lib.hid (HK.out.then (hl.below (B := G) (fun k hk => by omega) (by have := HE.out.lt; omega)) (by omega))
      have HD7 : Hid (IsDeck (w5.setCells H 2 trueR) b) := Lib.hid (HD.out.below (hl.below (B := G) (fun k hk => by omega) (by have := HE.out.lt; omega)) (by omega))
      go_meet
      case rel => exact ⟨rfl, ⟨_, Lib.hid (lis_one HO7.out HIN7.out (trueC_ok HXN.out.2) hGH), Lib.hid fun i hi => ⟨⟨HXN.out.1, show 0 < 1 by omega⟩, fun j hj => by omega⟩⟩, HE7, HK7, HD7⟩
    · go_wp2_with fail
      go_meet
      case rel => exact ⟨rfl, ⟨_, Lib.hid (lis_one HO.out HIN.out HXN.out.2 hGH), Lib.hid fun i hi => ⟨⟨HXN.out.1, show 0 < 1 by omega⟩, fun j hj => by omega⟩⟩, HE, HK, HD⟩
  case rest =>
    clear HE HK HD HIN HXN HO HXI
    obtain ⟨rfl, ⟨zs, HL, HU⟩, HE, HK, HD⟩ := hcut
    have hsw : w.heap.size < wc.heap.size := by have := HE.out.lt; omega
    go_wp2_with fail
    go_loopw [9, 10, 11] (fun nm l kv wr => ∃ (kk m nn : Nat) (Al An : Option Addr) (cl cn : Nat) (zs : Nat → Cl × WA) (κ : Nat → Nat) (f : Nat → ByteArray), nm = .slice An nn cn ∧ l = .slice Al m cl ∧ kv = .int .i64 kk ∧ (1 ≤ kk ∧ kk ≤ N + 1) ∧ (1 ≤ m ∧ m ≤ kk) ∧ nn + 1 ≤ kk ∧ Hid (LisC G wr An Al m zs) ∧ Hid (upN p kk m zs κ) ∧ Hid (NamI G wr An nn cn f) ∧ Hid (Has wr G #[.slice A n c] 56) ∧ Hid (Keeps b w wr) ∧ Hid (IsDeck wr b)) (fun _ _ kv _ => N + 1 - (intOf kv).toNat)
    case atStart => exact ⟨1, 1, 0, _, none, 1, 0, zs, fun _ => 0, fun _ => p, rfl, rfl, rfl, ⟨by omega, by omega⟩, ⟨by omega, by omega⟩, by omega, HL, HU, Lib.hid NamI.nil, HE, HK, HD⟩
    case round =>
      clear HL HU HE HK HD hsw zs
      obtain ⟨kk, m, nn, Al, An, cl, cn, zs, κ, f, rfl, rfl, rfl, hkk, hm, hnn, HL, HU, HN, HE, HK, HD⟩ := hrel
      have hsG : G < wr.heap.size := HE.out.lt
      by_cases hlt : kk ≤ N
      · have hk1 : (kk : Int) ≤ N := by omega
        have hnum : IntKind.i64.wrap ((kk : Int) + 1) = ((kk + 1 : Nat) : Int) := by rw [IntKind.wrap_i64]; omega
        go_wp2_with fail
        refine (left_any b _ HD.out).mono ?_
        rintro r w1 ⟨⟨lv, rfl⟩, hk, hd⟩
        replace HL := Lib.hid (HL.out.keeps hk hb)
        replace HN := Lib.hid (HN.out.keeps hk hb)
        replace HK := Lib.hid (HK.out.trans hk)
        replace HD := Lib.hid hd
        replace HE := Lib.hid (HE.out.keeps hk (by omega))
        have hs1 := hk.size
        clear hk hd
        cases lv with
        | false =>
          go_wp2_with fail
          go_ret
          exact HL.out.madeL hGw ⟨hm.1, by omega⟩ HU.out hkk.2 HK.out HD.out
        | true =>
          go_upto_region 8 with (fail)
          have HSG : Hid (∀ V, Keeps b w1 V → V.cell? ⟨G, 0, none⟩ = some (.slice A n c)) := Lib.hid fun V hk => by rw [(HE.out.keeps hk (by omega)).cell]; rfl
          have HBB : Hid (Keeps b w1 w1.drew) := Lib.hid (Keeps.refl _ _).drew
          have HDD : Hid (IsDeck w1.drew b) := Lib.hid HD.out.drew
          have hsw1 : G < w1.heap.size := by omega
          go_cut [12] from 29 to 69 (fun q wx => ∃ (H : Nat) (x : Cl) (a : WA), q = .pointer (some ⟨H, 0, none⟩) ∧ w1.heap.size ≤ H ∧ Hid (Keeps b w1 wx) ∧ Hid (IsDeck wx b) ∧ Hid (Has wx H (x.cells a) 46) ∧ Hid (ClIn (fun i => w1.heap.size ≤ i ∧ i ≠ H ∧ i < wx.heap.size) wx x a) ∧ Hid (x.name = letL p kk ∧ x.ok))
          case first =>
            refine wp_region_held_drew (S := fun wx => wx.cell? ⟨G, 0, none⟩ = some (.slice A n c)) (by kernel_rfl) (HSG.out _ HBB.out) (fun hHeld => ?_)
            refine wpAnyH_take (i := 0) (v := ?v1) rfl (by kernel_rfl) (by kernel_rfl) (by kernel_rfl) (fun _ _ _ h => h) (Or.inl ⟨by rfl, ?hy1⟩) (by assumption) ?rest1
            case hy1 => (intro wx hSw; (try dsimp only at hSw); go_simp; try with_reducible rfl)
            try simp only [Act.put, List.setIfInBounds_toArray, List.set_cons_zero, List.set_cons_succ]
            refine wpAnyH_take (i := 1) (v := ?v2) rfl (by kernel_rfl) (by kernel_rfl) (by kernel_rfl) (fun _ _ _ h => h) (Or.inl ⟨by rfl, ?hy2⟩) (by assumption) ?rest2
            case hy2 => (intro wx hSw; (try dsimp only at hSw); go_simp; try with_reducible rfl)
            try simp only [Act.put, List.setIfInBounds_toArray, List.set_cons_zero, List.set_cons_succ]
            refine wpAnyH_take (i := 2) (v := ?v3) rfl (by kernel_rfl) (by kernel_rfl) (by kernel_rfl) (fun _ _ _ h => h) (Or.inl ⟨by rfl, ?hy3⟩) (by assumption) ?rest3
            case hy3 => (intro wx hSw; (try dsimp only at hSw); go_simp; try with_reducible rfl)
            try simp only [Act.put, List.setIfInBounds_toArray, List.set_cons_zero, List.set_cons_succ]
            refine wpAnyH_take (i := 4) (v := ?v4) rfl (by kernel_rfl) (by kernel_rfl) (by kernel_rfl) (fun _ _ _ h => h) (Or.inl ⟨by rfl, ?hy4⟩) (by assumption) ?rest4
            case hy4 => (intro wx hSw; (try dsimp only at hSw); go_simp; try with_reducible rfl)
            try simp only [Act.put, List.setIfInBounds_toArray, List.set_cons_zero, List.set_cons_succ]
            refine wpAnyH_take (i := 5) (v := ?v5) rfl (by kernel_rfl) (by kernel_rfl) (by kernel_rfl) (fun _ _ _ h => h) (Or.inl ⟨by rfl, ?hy5⟩) (by assumption) ?rest5
            case hy5 => (intro wx hSw; (try dsimp only at hSw); go_simp; try with_reducible rfl)
            try simp only [Act.put, List.setIfInBounds_toArray, List.set_cons_zero, List.set_cons_succ]
            refine wpAnyH_take (i := 7) (v := ?v6) rfl (by kernel_rfl) (by kernel_rfl) (by kernel_rfl) (fun _ _ _ h => h) (Or.inl ⟨by rfl, ?hy6⟩) (by assumption) ?rest6
            case hy6 => (intro wx hSw; (try dsimp only at hSw); go_simp; try with_reducible rfl)
            try simp only [Act.put, List.setIfInBounds_toArray, List.set_cons_zero, List.set_cons_succ]
            refine wpAnyH_ready (rs := [3, 9]) (by kernel_rfl) (by simp) ?_
            refine AllReadyH.cons rfl (fun K hK => ?_) ?_
            · go_simp
              go_at_call 35
              refine (range_any b 1 10 _ HDD.out (by omega) (by omega) (by omega) (by omega)).mono ?_
              rintro r wR ⟨z, rfl, z0, z1, hk, hd⟩
              replace HBB : Hid (Keeps b w1 wR) := Lib.hid (HBB.out.trans hk)
              replace HDD := Lib.hid hd
              obtain ⟨kd, hkd⟩ : ∃ j : Nat, z = j := ⟨z.toNat, by omega⟩
              subst hkd
              have hkd2 : 1 ≤ kd ∧ kd ≤ 10 := by omega
              clear z0 z1 hk hd
              go_simp
              refine hK.out _ _ ?_ (fun hHeld => ?_)
              · exact HSG.out _ HBB.out
              clear hK K
              try simp only [Act.put, List.setIfInBounds_toArray, List.set_cons_zero, List.set_cons_succ]
              refine wpAnyH_ready (rs := [6, 9]) (by kernel_rfl) (by simp) ?_
              refine AllReadyH.cons rfl (fun K hK => ?_) ?_
              · go_simp
                go_at_call 33
                refine (HLT.out kk _ (by omega)).mono ?_
                rintro r wL ⟨rfl, hb1⟩
                have hk := Keeps.of_below hb1 b
                replace HBB : Hid (Keeps b w1 wL) := Lib.hid (HBB.out.trans hk)
                replace HDD : Hid (IsDeck wL b) := Lib.hid (HDD.out.below hb1 HDD.out.lt)
                clear hb1 hk
                go_simp
                refine hK.out _ _ ?_ (fun hHeld => ?_)
                · exact HSG.out _ HBB.out
                clear hK K
                try simp only [Act.put, List.setIfInBounds_toArray, List.set_cons_zero, List.set_cons_succ]
                refine wpAnyH_ready (rs := [8, 9]) (by kernel_rfl) (by simp) ?_
                refine AllReadyH.cons rfl (fun K hK => ?_) ?_
                · go_simp
                  go_at_call 32
                  have hs2 := HBB.out.size
                  refine (HCM.out kd kk An nn cn f _ HDD.out (HK.out.trans HBB.out) hkd2 (by omega) ((HN.out.keeps HBB.out hb).nmIn hb (by omega))).mono ?_
                  rintro r wC ⟨x, a, rfl, hin, ⟨hx1, hx2, hok⟩, hk, hd⟩
                  have HIN : Hid (ClIn (fun i => w1.heap.size ≤ i ∧ i < wC.heap.size) wC x a) := Lib.hid (hin.keep (fun _ _ _ => rfl) (fun i hi => ⟨by omega, hi.2⟩))
                  have HXN := Lib.hid (And.intro hx2 hok)
                  replace HBB : Hid (Keeps b w1 wC) := Lib.hid (HBB.out.trans hk)
                  replace HDD := Lib.hid hd
                  clear hin hx1 hx2 hok hk hd hs2
                  go_simp
                  refine hK.out _ _ ?_ (fun hHeld => ?_)
                  · exact HSG.out _ HBB.out
                  clear hK K
                  try simp only [Act.put, List.setIfInBounds_toArray, List.set_cons_zero, List.set_cons_succ]
                  refine wpAnyH_ready (rs := [9]) (by kernel_rfl) (by simp) ?_
                  refine AllReadyH.cons rfl (fun K hK => ?_) ?_
                  · go_simp
                    have hka : Keeps b wC (wC.alloc (.cells #[.int .i64 0, .string { data := #[] }, .int .i64 0, .string { data := #[] }, .slice none 0 0, .int .i64 0, .int .i64 0, .slice none 0 0, .slice none 0 0, .int .i64 0] 46)) := (Keeps.refl b _).alloc _
                    have HZ := Lib.hid (Has.new wC #[.int .i64 0, .string { data := #[] }, .int .i64 0, .string { data := #[] }, .slice none 0 0, .int .i64 0, .int .i64 0, .slice none 0 0, .slice none 0 0, .int .i64 0] 46)
                    have hs2 := HBB.out.size
                    replace HIN : Hid (ClIn (fun i => w1.heap.size ≤ i ∧ i ≠ wC.heap.size ∧ i < (wC.alloc (.cells #[.int .i64 0, .string { data := #[] }, .int .i64 0, .string { data := #[] }, .slice none 0 0, .int .i64 0, .int .i64 0, .slice none 0 0, .slice none 0 0, .int .i64 0] 46)).heap.size) (wC.alloc (.cells #[.int .i64 0, .string { data := #[] }, .int .i64 0, .string { data := #[] }, .slice none 0 0, .int .i64 0, .int .i64 0, .slice none 0 0, .slice none 0 0, .int .i64 0] 46)) x a) := Lib.hid (HIN.out.keep (fun i o hi => World.cell?_alloc_old wC _ _ (show i ≠ wC.heap.size by omega)) (fun i hi => ⟨hi.1, by omega, by simp; omega⟩))
                    replace HBB := Lib.hid (HBB.out.trans hka)
                    replace HDD : Hid (IsDeck (wC.alloc (.cells #[.int .i64 0, .string { data := #[] }, .int .i64 0, .string { data := #[] }, .slice none 0 0, .int .i64 0, .int .i64 0, .slice none 0 0, .slice none 0 0, .int .i64 0] 46)) b) := Lib.hid (HDD.out.alloc _)
                    obtain ⟨wA, hwA⟩ : ∃ z, wC.alloc (.cells #[.int .i64 0, .string { data := #[] }, .int .i64 0, .string { data := #[] }, .slice none 0 0, .int .i64 0, .int .i64 0, .slice none 0 0, .slice none 0 0, .int .i64 0] 46) = z := ⟨_, rfl⟩
                    obtain ⟨H, hH⟩ : ∃ z, wC.heap.size = z := ⟨_, rfl⟩
                    have hHw : w1.heap.size ≤ H := by rw [← hH]; exact hs2
                    rw [hwA] at HZ HBB HDD HIN ⊢
                    rw [hH] at HZ HIN
                    try rw [hH]
                    try rw [show w1.heap.size = H from hH]
                    clear hka hwA hH hs2
                    refine hK.out _ _ ?_ (fun hHeld => ?_)
                    · exact HSG.out _ HBB.out
                    clear hK K
                    try simp only [Act.put, List.setIfInBounds_toArray, List.set_cons_zero, List.set_cons_succ]
                    refine wpAnyH_ready (rs := [10]) (by kernel_rfl) (by simp) ?_
                    refine AllReadyH.cons rfl (fun K hK => ?_) ?_
                    · refine step_store_mid (by rfl) 46 _ _ (by rfl) H 0 (x.cells a) (by rfl) (by rfl) (HZ.out.there' (show 0 + 10 ≤ 10 by decide)) HCI.out (Cl.cells_one x a) ?_
                      have hl := leaves_setCells H (x.cells a).toList 0 wA
                      have hbm : Below w1.heap.size wA (wA.setCells H 0 (x.cells a).toList) := hl.below (fun k hk => by omega) HBB.out.size
                      have HO := Lib.hid (HZ.out.whole (ds := x.cells a) rfl)
                      have hs2 : (wA.setCells H 0 (x.cells a).toList).heap.size = wA.heap.size := setCells_size _ _ _ _
                      replace HIN : Hid (ClIn (fun i => w1.heap.size ≤ i ∧ i ≠ H ∧ i < (wA.setCells H 0 (x.cells a).toList).heap.size) (wA.setCells H 0 (x.cells a).toList) x a) := Lib.hid (HIN.out.keep (fun i o hi => World.cell?_of_block (w := wA) (hl.block i hi.2.2 hi.2.1)) (fun i hi => by rw [hs2]; exact hi))
                      replace HBB := Lib.hid (HBB.out.then hbm (Nat.le_refl _))
                      replace HDD : Hid (IsDeck (wA.setCells H 0 (x.cells a).toList) b) := Lib.hid (HDD.out.below hbm (by omega))
                      obtain ⟨wS, hwS⟩ : ∃ z, wA.setCells H 0 (x.cells a).toList = z := ⟨_, rfl⟩
                      rw [hwS] at HBB HDD HO HIN ⊢
                      clear hl hbm hs2 hwS
                      refine hK.out _ _ ?_ (fun hHeld => ?_)
                      · exact HSG.out _ HBB.out
                      clear hK K
                      try simp only [Act.put, List.setIfInBounds_toArray, List.set_cons_zero, List.set_cons_succ]
                      refine wpAnyH_done (by kernel_rfl) ?_ _
                      go_wp2_with fail
                      go_meet
                      case rel => exact ⟨H, x, a, rfl, hHw, HBB, HDD, HO, HIN, HXN⟩
                    exact AllReadyH.nil
                  exact AllReadyH.nil
                refine AllReadyH.cons rfl (fun K hK => ?_) ?_
                · go_simp
                  have hka : Keeps b wL (wL.alloc (.cells #[.int .i64 0, .string { data := #[] }, .int .i64 0, .string { data := #[] }, .slice none 0 0, .int .i64 0, .int .i64 0, .slice none 0 0, .slice none 0 0, .int .i64 0] 46)) := (Keeps.refl b _).alloc _
                  have HZ := Lib.hid (Has.new wL #[.int .i64 0, .string { data := #[] }, .int .i64 0, .string { data := #[] }, .slice none 0 0, .int .i64 0, .int .i64 0, .slice none 0 0, .slice none 0 0, .int .i64 0] 46)
                  have hs2 := HBB.out.size
                  replace HBB := Lib.hid (HBB.out.trans hka)
                  replace HDD : Hid (IsDeck (wL.alloc (.cells #[.int .i64 0, .string { data := #[] }, .int .i64 0, .string { data := #[] }, .slice none 0 0, .int .i64 0, .int .i64 0, .slice none 0 0, .slice none 0 0, .int .i64 0] 46)) b) := Lib.hid (HDD.out.alloc _)
                  obtain ⟨wA, hwA⟩ : ∃ z, wL.alloc (.cells #[.int .i64 0, .string { data := #[] }, .int .i64 0, .string { data := #[] }, .slice none 0 0, .int .i64 0, .int .i64 0, .slice none 0 0, .slice none 0 0, .int .i64 0] 46) = z := ⟨_, rfl⟩
                  obtain ⟨H, hH⟩ : ∃ z, wL.heap.size = z := ⟨_, rfl⟩
                  have hHw : w1.heap.size ≤ H := by rw [← hH]; exact hs2
                  rw [hwA] at HZ HBB HDD ⊢
                  rw [hH] at HZ
                  try rw [hH]
                  try rw [show w1.heap.size = H from hH]
                  clear hka hwA hH hs2
                  refine hK.out _ _ ?_ (fun hHeld => ?_)
                  · exact HSG.out _ HBB.out
                  clear hK K
                  try simp only [Act.put, List.setIfInBounds_toArray, List.set_cons_zero, List.set_cons_succ]
                  refine wpAnyH_ready (rs := [8]) (by kernel_rfl) (by simp) ?_
                  refine AllReadyH.cons rfl (fun K hK => ?_) ?_
                  · go_simp
                    go_at_call 32
                    have hs2 := HBB.out.size
                    refine (HCM.out kd kk An nn cn f _ HDD.out (HK.out.trans HBB.out) hkd2 (by omega) ((HN.out.keeps HBB.out hb).nmIn hb (by omega))).mono ?_
                    rintro r wC ⟨x, a, rfl, hin, ⟨hx1, hx2, hok⟩, hk, hd⟩
                    have hHl := HZ.out.lt
                    have HIN : Hid (ClIn (fun i => w1.heap.size ≤ i ∧ i ≠ H ∧ i < wC.heap.size) wC x a) := Lib.hid (hin.keep (fun _ _ _ => rfl) (fun i hi => ⟨by omega, by omega, hi.2⟩))
                    clear hHl
                    have HXN := Lib.hid (And.intro hx2 hok)
                    replace HBB : Hid (Keeps b w1 wC) := Lib.hid (HBB.out.trans hk)
                    replace HZ := Lib.hid (HZ.out.keeps hk (by omega))
                    replace HDD := Lib.hid hd
                    clear hin hx1 hx2 hok hk hd hs2
                    go_simp
                    refine hK.out _ _ ?_ (fun hHeld => ?_)
                    · exact HSG.out _ HBB.out
                    clear hK K
                    try simp only [Act.put, List.setIfInBounds_toArray, List.set_cons_zero, List.set_cons_succ]
                    refine wpAnyH_ready (rs := [10]) (by kernel_rfl) (by simp) ?_
                    refine AllReadyH.cons rfl (fun K hK => ?_) ?_
                    · refine step_store_mid (by rfl) 46 _ _ (by rfl) H 0 (x.cells a) (by rfl) (by rfl) (HZ.out.there' (show 0 + 10 ≤ 10 by decide)) HCI.out (Cl.cells_one x a) ?_
                      have hl := leaves_setCells H (x.cells a).toList 0 wC
                      have hbm : Below w1.heap.size wC (wC.setCells H 0 (x.cells a).toList) := hl.below (fun k hk => by omega) HBB.out.size
                      have HO := Lib.hid (HZ.out.whole (ds := x.cells a) rfl)
                      have hs2 : (wC.setCells H 0 (x.cells a).toList).heap.size = wC.heap.size := setCells_size _ _ _ _
                      replace HIN : Hid (ClIn (fun i => w1.heap.size ≤ i ∧ i ≠ H ∧ i < (wC.setCells H 0 (x.cells a).toList).heap.size) (wC.setCells H 0 (x.cells a).toList) x a) := Lib.hid (HIN.out.keep (fun i o hi => World.cell?_of_block (w := wC) (hl.block i hi.2.2 hi.2.1)) (fun i hi => by rw [hs2]; exact hi))
                      replace HBB := Lib.hid (HBB.out.then hbm (Nat.le_refl _))
                      replace HDD : Hid (IsDeck (wC.setCells H 0 (x.cells a).toList) b) := Lib.hid (HDD.out.below hbm (by omega))
                      obtain ⟨wS, hwS⟩ : ∃ z, wC.setCells H 0 (x.cells a).toList = z := ⟨_, rfl⟩
                      rw [hwS] at HBB HDD HO HIN ⊢
                      clear hl hbm hs2 hwS
                      refine hK.out _ _ ?_ (fun hHeld => ?_)
                      · exact HSG.out _ HBB.out
                      clear hK K
                      try simp only [Act.put, List.setIfInBounds_toArray, List.set_cons_zero, List.set_cons_succ]
                      refine wpAnyH_done (by kernel_rfl) ?_ _
                      go_wp2_with fail
                      go_meet
                      case rel => exact ⟨H, x, a, rfl, hHw, HBB, HDD, HO, HIN, HXN⟩
                    exact AllReadyH.nil
                  exact AllReadyH.nil
                exact AllReadyH.nil
              refine AllReadyH.cons rfl (fun K hK => ?_) ?_
              · go_simp
                have hka : Keeps b wR (wR.alloc (.cells #[.int .i64 0, .string { data := #[] }, .int .i64 0, .string { data := #[] }, .slice none 0 0, .int .i64 0, .int .i64 0, .slice none 0 0, .slice none 0 0, .int .i64 0] 46)) := (Keeps.refl b _).alloc _
                have HZ := Lib.hid (Has.new wR #[.int .i64 0, .string { data := #[] }, .int .i64 0, .string { data := #[] }, .slice none 0 0, .int .i64 0, .int .i64 0, .slice none 0 0, .slice none 0 0, .int .i64 0] 46)
                have hs2 := HBB.out.size
                replace HBB := Lib.hid (HBB.out.trans hka)
                replace HDD : Hid (IsDeck (wR.alloc (.cells #[.int .i64 0, .string { data := #[] }, .int .i64 0, .string { data := #[] }, .slice none 0 0, .int .i64 0, .int .i64 0, .slice none 0 0, .slice none 0 0, .int .i64 0] 46)) b) := Lib.hid (HDD.out.alloc _)
                obtain ⟨wA, hwA⟩ : ∃ z, wR.alloc (.cells #[.int .i64 0, .string { data := #[] }, .int .i64 0, .string { data := #[] }, .slice none 0 0, .int .i64 0, .int .i64 0, .slice none 0 0, .slice none 0 0, .int .i64 0] 46) = z := ⟨_, rfl⟩
                obtain ⟨H, hH⟩ : ∃ z, wR.heap.size = z := ⟨_, rfl⟩
                have hHw : w1.heap.size ≤ H := by rw [← hH]; exact hs2
                rw [hwA] at HZ HBB HDD ⊢
                rw [hH] at HZ
                try rw [hH]
                try rw [show w1.heap.size = H from hH]
                clear hka hwA hH hs2
                refine hK.out _ _ ?_ (fun hHeld => ?_)
                · exact HSG.out _ HBB.out
                clear hK K
                try simp only [Act.put, List.setIfInBounds_toArray, List.set_cons_zero, List.set_cons_succ]
                refine wpAnyH_ready (rs := [6]) (by kernel_rfl) (by simp) ?_
                refine AllReadyH.cons rfl (fun K hK => ?_) ?_
                · go_simp
                  go_at_call 33
                  refine (HLT.out kk _ (by omega)).mono ?_
                  rintro r wL ⟨rfl, hb1⟩
                  have hk := Keeps.of_below hb1 b
                  replace HBB : Hid (Keeps b w1 wL) := Lib.hid (HBB.out.trans hk)
                  replace HZ := Lib.hid (HZ.out.keeps hk (by omega))
                  replace HDD : Hid (IsDeck wL b) := Lib.hid (HDD.out.below hb1 HDD.out.lt)
                  clear hb1 hk
                  go_simp
                  refine hK.out _ _ ?_ (fun hHeld => ?_)
                  · exact HSG.out _ HBB.out
                  clear hK K
                  try simp only [Act.put, List.setIfInBounds_toArray, List.set_cons_zero, List.set_cons_succ]
                  refine wpAnyH_ready (rs := [8]) (by kernel_rfl) (by simp) ?_
                  refine AllReadyH.cons rfl (fun K hK => ?_) ?_
                  · go_simp
                    go_at_call 32
                    have hs2 := HBB.out.size
                    refine (HCM.out kd kk An nn cn f _ HDD.out (HK.out.trans HBB.out) hkd2 (by omega) ((HN.out.keeps HBB.out hb).nmIn hb (by omega))).mono ?_
                    rintro r wC ⟨x, a, rfl, hin, ⟨hx1, hx2, hok⟩, hk, hd⟩
                    have hHl := HZ.out.lt
                    have HIN : Hid (ClIn (fun i => w1.heap.size ≤ i ∧ i ≠ H ∧ i < wC.heap.size) wC x a) := Lib.hid (hin.keep (fun _ _ _ => rfl) (fun i hi => ⟨by omega, by omega, hi.2⟩))
                    clear hHl
                    have HXN := Lib.hid (And.intro hx2 hok)
                    replace HBB : Hid (Keeps b w1 wC) := Lib.hid (HBB.out.trans hk)
                    replace HZ := Lib.hid (HZ.out.keeps hk (by omega))
                    replace HDD := Lib.hid hd
                    clear hin hx1 hx2 hok hk hd hs2
                    go_simp
                    refine hK.out _ _ ?_ (fun hHeld => ?_)
                    · exact HSG.out _ HBB.out
                    clear hK K
                    try simp only [Act.put, List.setIfInBounds_toArray, List.set_cons_zero, List.set_cons_succ]
                    refine wpAnyH_ready (rs := [10]) (by kernel_rfl) (by simp) ?_
                    refine AllReadyH.cons rfl (fun K hK => ?_) ?_
                    · refine step_store_mid (by rfl) 46 _ _ (by rfl) H 0 (x.cells a) (by rfl) (by rfl) (HZ.out.there' (show 0 + 10 ≤ 10 by decide)) HCI.out (Cl.cells_one x a) ?_
                      have hl := leaves_setCells H (x.cells a).toList 0 wC
                      have hbm : Below w1.heap.size wC (wC.setCells H 0 (x.cells a).toList) := hl.below (fun k hk => by omega) HBB.out.size
                      have HO := Lib.hid (HZ.out.whole (ds := x.cells a) rfl)
                      have hs2 : (wC.setCells H 0 (x.cells a).toList).heap.size = wC.heap.size := setCells_size _ _ _ _
                      replace HIN : Hid (ClIn (fun i => w1.heap.size ≤ i ∧ i ≠ H ∧ i < (wC.setCells H 0 (x.cells a).toList).heap.size) (wC.setCells H 0 (x.cells a).toList) x a) := Lib.hid (HIN.out.keep (fun i o hi => World.cell?_of_block (w := wC) (hl.block i hi.2.2 hi.2.1)) (fun i hi => by rw [hs2]; exact hi))
                      replace HBB := Lib.hid (HBB.out.then hbm (Nat.le_refl _))
                      replace HDD : Hid (IsDeck (wC.setCells H 0 (x.cells a).toList) b) := Lib.hid (HDD.out.below hbm (by omega))
                      obtain ⟨wS, hwS⟩ : ∃ z, wC.setCells H 0 (x.cells a).toList = z := ⟨_, rfl⟩
                      rw [hwS] at HBB HDD HO HIN ⊢
                      clear hl hbm hs2 hwS
                      refine hK.out _ _ ?_ (fun hHeld => ?_)
                      · exact HSG.out _ HBB.out
                      clear hK K
                      try simp only [Act.put, List.setIfInBounds_toArray, List.set_cons_zero, List.set_cons_succ]
                      refine wpAnyH_done (by kernel_rfl) ?_ _
                      go_wp2_with fail
                      go_meet
                      case rel => exact ⟨H, x, a, rfl, hHw, HBB, HDD, HO, HIN, HXN⟩
                    exact AllReadyH.nil
                  exact AllReadyH.nil
                exact AllReadyH.nil
              exact AllReadyH.nil
            refine AllReadyH.cons rfl (fun K hK => ?_) ?_
            · go_simp; try rw [show (w1.alloc (.cells #[.int .i64 0, .string { data := #[] }, .int .i64 0, .string { data := #[] }, .slice none 0 0, .int .i64 0, .int .i64 0, .slice none 0 0, .slice none 0 0, .int .i64 0] 46)).drew = w1.drew.alloc (.cells #[.int .i64 0, .string { data := #[] }, .int .i64 0, .string { data := #[] }, .slice none 0 0, .int .i64 0, .int .i64 0, .slice none 0 0, .slice none 0 0, .int .i64 0] 46) from rfl]
              have hka : Keeps b w1.drew (w1.drew.alloc (.cells #[.int .i64 0, .string { data := #[] }, .int .i64 0, .string { data := #[] }, .slice none 0 0, .int .i64 0, .int .i64 0, .slice none 0 0, .slice none 0 0, .int .i64 0] 46)) := (Keeps.refl b _).alloc _
              have HZ := Lib.hid (Has.new w1.drew #[.int .i64 0, .string { data := #[] }, .int .i64 0, .string { data := #[] }, .slice none 0 0, .int .i64 0, .int .i64 0, .slice none 0 0, .slice none 0 0, .int .i64 0] 46)
              have hs2 := HBB.out.size
              replace HBB := Lib.hid (HBB.out.trans hka)
              replace HDD : Hid (IsDeck (w1.drew.alloc (.cells #[.int .i64 0, .string { data := #[] }, .int .i64 0, .string { data := #[] }, .slice none 0 0, .int .i64 0, .int .i64 0, .slice none 0 0, .slice none 0 0, .int .i64 0] 46)) b) := Lib.hid (HDD.out.alloc _)
              obtain ⟨wA, hwA⟩ : ∃ z, w1.drew.alloc (.cells #[.int .i64 0, .string { data := #[] }, .int .i64 0, .string { data := #[] }, .slice none 0 0, .int .i64 0, .int .i64 0, .slice none 0 0, .slice none 0 0, .int .i64 0] 46) = z := ⟨_, rfl⟩
              obtain ⟨H, hH⟩ : ∃ z, w1.drew.heap.size = z := ⟨_, rfl⟩
              have hHw : w1.heap.size ≤ H := by rw [← hH]; exact hs2
              rw [hwA] at HZ HBB HDD ⊢
              rw [hH] at HZ
              try rw [hH]
              try rw [show w1.heap.size = H from hH]
              clear hka hwA hH hs2
              refine hK.out _ _ ?_ (fun hHeld => ?_)
              · exact HSG.out _ HBB.out
              clear hK K
              try simp only [Act.put, List.setIfInBounds_toArray, List.set_cons_zero, List.set_cons_succ]
              refine wpAnyH_ready (rs := [3]) (by kernel_rfl) (by simp) ?_
              refine AllReadyH.cons rfl (fun K hK => ?_) ?_
              · go_simp
                go_at_call 35
                refine (range_any b 1 10 _ HDD.out (by omega) (by omega) (by omega) (by omega)).mono ?_
                rintro r wR ⟨z, rfl, z0, z1, hk, hd⟩
                replace HBB : Hid (Keeps b w1 wR) := Lib.hid (HBB.out.trans hk)
                replace HZ := Lib.hid (HZ.out.keeps hk (by omega))
                replace HDD := Lib.hid hd
                obtain ⟨kd, hkd⟩ : ∃ j : Nat, z = j := ⟨z.toNat, by omega⟩
                subst hkd
                have hkd2 : 1 ≤ kd ∧ kd ≤ 10 := by omega
                clear z0 z1 hk hd
                go_simp
                refine hK.out _ _ ?_ (fun hHeld => ?_)
                · exact HSG.out _ HBB.out
                clear hK K
                try simp only [Act.put, List.setIfInBounds_toArray, List.set_cons_zero, List.set_cons_succ]
                refine wpAnyH_ready (rs := [6]) (by kernel_rfl) (by simp) ?_
                refine AllReadyH.cons rfl (fun K hK => ?_) ?_
                · go_simp
                  go_at_call 33
                  refine (HLT.out kk _ (by omega)).mono ?_
                  rintro r wL ⟨rfl, hb1⟩
                  have hk := Keeps.of_below hb1 b
                  replace HBB : Hid (Keeps b w1 wL) := Lib.hid (HBB.out.trans hk)
                  replace HZ := Lib.hid (HZ.out.keeps hk (by omega))
                  replace HDD : Hid (IsDeck wL b) := Lib.hid (HDD.out.below hb1 HDD.out.lt)
                  clear hb1 hk
                  go_simp
                  refine hK.out _ _ ?_ (fun hHeld => ?_)
                  · exact HSG.out _ HBB.out
                  clear hK K
                  try simp only [Act.put, List.setIfInBounds_toArray, List.set_cons_zero, List.set_cons_succ]
                  refine wpAnyH_ready (rs := [8]) (by kernel_rfl) (by simp) ?_
                  refine AllReadyH.cons rfl (fun K hK => ?_) ?_
                  · go_simp
                    go_at_call 32
                    have hs2 := HBB.out.size
                    refine (HCM.out kd kk An nn cn f _ HDD.out (HK.out.trans HBB.out) hkd2 (by omega) ((HN.out.keeps HBB.out hb).nmIn hb (by omega))).mono ?_
                    rintro r wC ⟨x, a, rfl, hin, ⟨hx1, hx2, hok⟩, hk, hd⟩
                    have hHl := HZ.out.lt
                    have HIN : Hid (ClIn (fun i => w1.heap.size ≤ i ∧ i ≠ H ∧ i < wC.heap.size) wC x a) := Lib.hid (hin.keep (fun _ _ _ => rfl) (fun i hi => ⟨by omega, by omega, hi.2⟩))
                    clear hHl
                    have HXN := Lib.hid (And.intro hx2 hok)
                    replace HBB : Hid (Keeps b w1 wC) := Lib.hid (HBB.out.trans hk)
                    replace HZ := Lib.hid (HZ.out.keeps hk (by omega))
                    replace HDD := Lib.hid hd
                    clear hin hx1 hx2 hok hk hd hs2
                    go_simp
                    refine hK.out _ _ ?_ (fun hHeld => ?_)
                    · exact HSG.out _ HBB.out
                    clear hK K
                    try simp only [Act.put, List.setIfInBounds_toArray, List.set_cons_zero, List.set_cons_succ]
                    refine wpAnyH_ready (rs := [10]) (by kernel_rfl) (by simp) ?_
                    refine AllReadyH.cons rfl (fun K hK => ?_) ?_
                    · refine step_store_mid (by rfl) 46 _ _ (by rfl) H 0 (x.cells a) (by rfl) (by rfl) (HZ.out.there' (show 0 + 10 ≤ 10 by decide)) HCI.out (Cl.cells_one x a) ?_
                      have hl := leaves_setCells H (x.cells a).toList 0 wC
                      have hbm : Below w1.heap.size wC (wC.setCells H 0 (x.cells a).toList) := hl.below (fun k hk => by omega) HBB.out.size
                      have HO := Lib.hid (HZ.out.whole (ds := x.cells a) rfl)
                      have hs2 : (wC.setCells H 0 (x.cells a).toList).heap.size = wC.heap.size := setCells_size _ _ _ _
                      replace HIN : Hid (ClIn (fun i => w1.heap.size ≤ i ∧ i ≠ H ∧ i < (wC.setCells H 0 (x.cells a).toList).heap.size) (wC.setCells H 0 (x.cells a).toList) x a) := Lib.hid (HIN.out.keep (fun i o hi => World.cell?_of_block (w := wC) (hl.block i hi.2.2 hi.2.1)) (fun i hi => by rw [hs2]; exact hi))
                      replace HBB := Lib.hid (HBB.out.then hbm (Nat.le_refl _))
                      replace HDD : Hid (IsDeck (wC.setCells H 0 (x.cells a).toList) b) := Lib.hid (HDD.out.below hbm (by omega))
                      obtain ⟨wS, hwS⟩ : ∃ z, wC.setCells H 0 (x.cells a).toList = z := ⟨_, rfl⟩
                      rw [hwS] at HBB HDD HO HIN ⊢
                      clear hl hbm hs2 hwS
                      refine hK.out _ _ ?_ (fun hHeld => ?_)
                      · exact HSG.out _ HBB.out
                      clear hK K
                      try simp only [Act.put, List.setIfInBounds_toArray, List.set_cons_zero, List.set_cons_succ]
                      refine wpAnyH_done (by kernel_rfl) ?_ _
                      go_wp2_with fail
                      go_meet
                      case rel => exact ⟨H, x, a, rfl, hHw, HBB, HDD, HO, HIN, HXN⟩
                    exact AllReadyH.nil
                  exact AllReadyH.nil
                exact AllReadyH.nil
              exact AllReadyH.nil
            exact AllReadyH.nil
          case rest =>
            obtain ⟨H, x, a, rfl, hHw, HBB, HDD, HO, HIN, HXN⟩ := hcut
            obtain ⟨wd, hwd⟩ : ∃ z, z = wc := ⟨_, rfl⟩
            subst hwd
            have hAn := HN.out.lt
            replace HL := Lib.hid (HL.out.keeps HBB.out hb)
            replace HN := Lib.hid (HN.out.keeps HBB.out hb)
            replace HK := Lib.hid (HK.out.trans HBB.out)
            replace HE := Lib.hid (HE.out.keeps HBB.out (by omega))
            replace HD := HDD
            replace HIN : Hid (ClIn (aS G G An wd) wd x a) := Lib.hid (HIN.out.keep (fun _ _ _ => rfl) (fun i hi => ⟨by omega, by omega, hi.2.2, fun ad e h => by have := hAn ad e; omega⟩))
            clear hAn
            clear HBB HDD HSG
            obtain ⟨bl, ol, hAl, hbl, hcc⟩ := HL.out.1 (by omega)
            subst hAl
            have hsc : G < wd.heap.size := HE.out.lt
            have HSRC := Lib.hid (rowC_src hcc hbl.2.2.1)
            have HSC : Hid (∀ V, Below wd.heap.size wd V → (∃ c, ClPtr V (.pointer (some ⟨H, 0, none⟩)) c) ∧ clCells V (.pointer (some ⟨H, 0, none⟩)) = x.cells a) := Lib.hid fun V hb => cl_ptr (HO.out.below hb HO.out.lt) rfl
            obtain ⟨y0, y1, y2, y3, y4, y5, hcs, hxe, hc1⟩ := Cl.cells_ex x a
            have HG10 : Hid (∀ j, j < 10 → ([.int .i64 x.kind, .string x.name, y0, y1, y2, y3, y4, y5, .slice a.A x.n a.c, .int .i64 x.amt] : List Value)[j]? = some (clC (x, a) j)) := Lib.hid fun j hj => by
              have := cl10_get x a j hj
              rw [hcs] at this
              exact this
            have HCN : Hid (∀ u ∈ ([.int .i64 x.kind, .string x.name, y0, y1, y2, y3, y4, y5, .slice a.A x.n a.c, .int .i64 x.amt] : List Value), u.oneCell' = true) := Lib.hid (List.all_eq_true.1 hc1)
            rw [hcs] at HSC
            have HO' := HO
            rw [hcs] at HO'
            obtain ⟨i0, hi0, hz0, hz1, hz2⟩ := info_parts cl_all
            have HI := Lib.hid hi0
            have HZ0 := Lib.hid hz0
            have HZ1 := Lib.hid hz1
            have HZ2 := Lib.hid hz2
            clear hi0 hz0 hz1 hz2 hcs hxe hc1 hcc
            have HBC : Hid (Below wd.heap.size wd wd.drew) := Lib.hid (Below.drew (Below.refl _ _))
            go_upto_region 9 with (fail)
            go_cut [13] from 29 to 69 (fun q wx => ∃ (A3 : Option Addr) (c3 : Nat), q = .slice A3 (m + 1) c3 ∧ Hid (Below wd.heap.size wd wx) ∧ Hid (CellsS (fun i => wd.heap.size ≤ i ∧ i < wx.heap.size) wx A3 ((m + 1) * 10) (rowF 10 clC (updN zs m (x, a)))))
            case first =>
              refine wp_region_held_drew (S := fun wx => (∃ c, ClPtr wx (.pointer (some ⟨H, 0, none⟩)) c) ∧ clCells wx (.pointer (some ⟨H, 0, none⟩)) = #[.int .i64 x.kind, .string x.name, y0, y1, y2, y3, y4, y5, .slice a.A x.n a.c, .int .i64 x.amt]) (by kernel_rfl) (HSC.out _ HBC.out) (fun hHeld => ?_)
              refine wpAnyH_take (i := 1) (v := ?v7) rfl (by kernel_rfl) (by kernel_rfl) (by kernel_rfl) (fun _ _ _ h => h) (Or.inl ⟨by rfl, ?hy7⟩) (by assumption) ?rest7
              case hy7 => (intro wx hSw; (try dsimp only at hSw); go_simp; try with_reducible rfl)
              try simp only [Act.put, List.setIfInBounds_toArray, List.set_cons_zero, List.set_cons_succ]
              refine wpAnyH_take (i := 3) (v := ?v8) rfl (by kernel_rfl) (by kernel_rfl) (by kernel_rfl) (fun _ _ _ h => h) (Or.inl ⟨by rfl, ?hy8⟩) (by assumption) ?rest8
              case hy8 => (intro wx hSw; refine (exec_load_cl (x := .tmp 12) hSw.1).trans ?_; show Result.ok (Next.value (Value.agg (clCells wx (.pointer (some ⟨H, 0, none⟩))))) wx = _; rw [hSw.2])
              try simp only [Act.put, List.setIfInBounds_toArray, List.set_cons_zero, List.set_cons_succ]
              refine wpAnyH_ready (rs := [0, 4]) (by kernel_rfl) (by simp) ?_
              refine AllReadyH.cons rfl (fun K hK => ?_) ?_
              · go_simp; try rw [show (wd.alloc (.cells #[] 46)).drew = wd.drew.alloc (.cells #[] 46) from rfl]
                have hs0 := HBC.out.size
                have HO0 := Lib.hid (own_empty wd.drew 46 10)
                have hsz : (wd.drew.alloc (.cells #[] 46)).heap.size = wd.drew.heap.size + 1 := by simp
                replace HBC := Lib.hid (HBC.out.alloc hs0 (.cells #[] 46))
                obtain ⟨wE, hwE⟩ : ∃ z, wd.drew.alloc (.cells #[] 46) = z := ⟨_, rfl⟩
                obtain ⟨E, hE⟩ : ∃ z, wd.drew.heap.size = z := ⟨_, rfl⟩
                have hEw : wd.heap.size ≤ E := by rw [← hE]; exact hs0
                rw [hwE] at HBC hsz HO0 ⊢
                rw [hE] at hsz HO0
                try rw [hE]
                try rw [show wd.heap.size = E from hE]
                have hEl : E < wE.heap.size := by omega
                clear hsz hwE hE hs0
                refine hK.out _ _ ?_ (fun hHeld => ?_)
                · exact HSC.out _ HBC.out
                clear hK K
                try simp only [Act.put, List.setIfInBounds_toArray, List.set_cons_zero, List.set_cons_succ]
                refine wpAnyH_ready (rs := [2, 4]) (by kernel_rfl) (by simp) ?_
                refine AllReadyH.cons rfl (fun K hK => ?_) ?_
                · have hs0 := HBC.out.size
                  refine step_append_lies _ (by rfl) _ _ _ (by rfl) E 46 i0 _ 10 144 Tryz.underlying22 HI.out HZ0.out HZ1.out HZ2.out rfl (by omega) (.slice (some ⟨E, 0, none⟩) 0 0) 0 [] (by rfl) HO0.out ⟨bl, ol, none⟩ m cl (rowL (m * 10) (rowF 10 clC zs)) (by rfl) (rowL_length _ _) (HSRC.out _ HBC.out) rowC_one (by omega) (by unfold maxLen; omega) (by omega) (by omega) _ rfl ?_
                  intro g1 cap1 wF hown hgrow hat hlt
                  rw [Nat.zero_add, List.nil_append] at hown
                  rw [Nat.zero_add]
                  show K (Act.put _ (some 49) _) _
                  have HO1 := Lib.hid hown
                  have hrow : ∀ k, (Value.slice (some ⟨E, 0, none⟩) 0 0).ownBlock = some k → k = E := fun k hk => by injection hk with hk; exact hk.symm
                  replace HBC := Lib.hid (HBC.out.grown hgrow hs0 (fun k hk => by have := hrow k hk; omega))
                  have hEl2 : E < wF.heap.size := by have := hgrow.size; omega
                  clear hown hgrow hat hlt hrow hs0 hEl HO0
                  have hEl := hEl2
                  clear hEl2
                  refine hK.out _ _ ?_ (fun hHeld => ?_)
                  · exact HSC.out _ HBC.out
                  clear hK K
                  try simp only [Act.put, List.setIfInBounds_toArray, List.set_cons_zero, List.set_cons_succ]
                  refine wpAnyH_ready (rs := [4]) (by kernel_rfl) (by simp) ?_
                  refine AllReadyH.cons rfl (fun K hK => ?_) ?_
                  · go_simp
                    have hs0 := HBC.out.size
                    have HC1 := Lib.hid (Has.new wF #[.int .i64 x.kind, .string x.name, y0, y1, y2, y3, y4, y5, .slice a.A x.n a.c, .int .i64 x.amt] 46)
                    have hsz : (wF.alloc (.cells #[.int .i64 x.kind, .string x.name, y0, y1, y2, y3, y4, y5, .slice a.A x.n a.c, .int .i64 x.amt] 46)).heap.size = wF.heap.size + 1 := by simp
                    replace HO1 := Lib.hid (HO1.out.alloc (.cells #[.int .i64 x.kind, .string x.name, y0, y1, y2, y3, y4, y5, .slice a.A x.n a.c, .int .i64 x.amt] 46))
                    replace HBC := Lib.hid (HBC.out.alloc hs0 (.cells #[.int .i64 x.kind, .string x.name, y0, y1, y2, y3, y4, y5, .slice a.A x.n a.c, .int .i64 x.amt] 46))
                    obtain ⟨wB, hwB⟩ : ∃ z, wF.alloc (.cells #[.int .i64 x.kind, .string x.name, y0, y1, y2, y3, y4, y5, .slice a.A x.n a.c, .int .i64 x.amt] 46) = z := ⟨_, rfl⟩
                    obtain ⟨C1, hC1⟩ : ∃ z, wF.heap.size = z := ⟨_, rfl⟩
                    have hC1w : wd.heap.size ≤ C1 := by rw [← hC1]; exact hs0
                    rw [hwB] at HBC hsz HC1 HO1 ⊢
                    rw [hC1] at hsz HC1
                    try rw [hC1]
                    try rw [show wd.heap.size = C1 from hC1]
                    have hC1l : C1 < wB.heap.size := by omega
                    have hne : C1 ≠ E := by omega
                    have hEl2 : E < wB.heap.size := by omega
                    clear hEl
                    have hEl := hEl2
                    clear hEl2
                    clear hsz hwB hC1 hs0
                    refine hK.out _ _ ?_ (fun hHeld => ?_)
                    · exact HSC.out _ HBC.out
                    clear hK K
                    try simp only [Act.put, List.setIfInBounds_toArray, List.set_cons_zero, List.set_cons_succ]
                    refine wpAnyH_ready (rs := [5]) (by kernel_rfl) (by simp) ?_
                    refine AllReadyH.cons rfl (fun K hK => ?_) ?_
                    · have hs0 := HBC.out.size
                      refine step_append_lies _ (by rfl) _ _ _ (by rfl) E 46 i0 _ 10 144 Tryz.underlying22 HI.out HZ0.out HZ1.out HZ2.out rfl (by omega) (.slice (some ⟨g1, 0, none⟩) m cap1) m (rowL (m * 10) (rowF 10 clC zs)) (by rfl) HO1.out ⟨C1, 0, none⟩ 1 1 [.int .i64 x.kind, .string x.name, y0, y1, y2, y3, y4, y5, .slice a.A x.n a.c, .int .i64 x.amt] (by rfl) rfl (World.news_of_block (cs := #[.int .i64 x.kind, .string x.name, y0, y1, y2, y3, y4, y5, .slice a.A x.n a.c, .int .i64 x.amt]) (t := 46) (fr := (0, 0)) HC1.out) HCN.out (by omega) (by unfold maxLen; omega) (by omega) (by omega) _ rfl ?_
                      intro g2 cap2 wG hown hgrow hat hlt
                      show K (Act.put _ (some 52) _) _
                      have hbase := (own_lt HO1.out rfl).2
                      replace HBC := Lib.hid (HBC.out.grown hgrow hs0 (fun k hk => by have := (own_lt HO1.out hk).2; omega))
                      rw [rowF_snoc (s := 10) (vs := [.int .i64 x.kind, .string x.name, y0, y1, y2, y3, y4, y5, .slice a.A x.n a.c, .int .i64 x.amt]) (cf := clC) (x := (x, a)) rfl HG10.out] at hown
                      have HO2 := Lib.hid hown
                      clear hown hgrow hat hlt hs0 HO1 HC1 hbase
                      refine hK.out _ _ ?_ (fun hHeld => ?_)
                      · exact HSC.out _ HBC.out
                      clear hK K
                      try simp only [Act.put, List.setIfInBounds_toArray, List.set_cons_zero, List.set_cons_succ]
                      refine wpAnyH_take (i := 6) (v := ?v9) rfl (by kernel_rfl) (by kernel_rfl) (by kernel_rfl) (fun _ _ _ h => h) (Or.inl ⟨by rfl, ?hy9⟩) (by assumption) ?rest9
                      case hy9 => (intro wx hSw; (try dsimp only at hSw); go_simp; try with_reducible rfl)
                      show wpAnyH _ _ _ _ _ _ _ (Act.put _ (some 13) _) _
                      try simp only [Act.put, List.setIfInBounds_toArray, List.set_cons_zero, List.set_cons_succ]
                      refine wpAnyH_done (by kernel_rfl) ?_ _
                      have ho9 := Own.of_row (F := rowF 10 clC (updN zs m (x, a))) HO2.out (fun j hj => rowL_get _ _ j hj)
                      have hb9 := ho9.base_le
                      have HC9 := Lib.hid (ho9.cellsS (S := fun i => wd.heap.size ≤ i ∧ i < wG.heap.size) ⟨by omega, ho9.lt⟩)
                      clear ho9 hb9 HO2
                      go_wp2_with fail
                      go_meet
                      case rel => exact ⟨_, _, rfl, HBC, HC9⟩
                    exact AllReadyH.nil
                  exact AllReadyH.nil
                refine AllReadyH.cons rfl (fun K hK => ?_) ?_
                · go_simp
                  have hs0 := HBC.out.size
                  have HC1 := Lib.hid (Has.new wE #[.int .i64 x.kind, .string x.name, y0, y1, y2, y3, y4, y5, .slice a.A x.n a.c, .int .i64 x.amt] 46)
                  have hsz : (wE.alloc (.cells #[.int .i64 x.kind, .string x.name, y0, y1, y2, y3, y4, y5, .slice a.A x.n a.c, .int .i64 x.amt] 46)).heap.size = wE.heap.size + 1 := by simp
                  replace HO0 := Lib.hid (HO0.out.alloc (.cells #[.int .i64 x.kind, .string x.name, y0, y1, y2, y3, y4, y5, .slice a.A x.n a.c, .int .i64 x.amt] 46))
                  replace HBC := Lib.hid (HBC.out.alloc hs0 (.cells #[.int .i64 x.kind, .string x.name, y0, y1, y2, y3, y4, y5, .slice a.A x.n a.c, .int .i64 x.amt] 46))
                  obtain ⟨wB, hwB⟩ : ∃ z, wE.alloc (.cells #[.int .i64 x.kind, .string x.name, y0, y1, y2, y3, y4, y5, .slice a.A x.n a.c, .int .i64 x.amt] 46) = z := ⟨_, rfl⟩
                  obtain ⟨C1, hC1⟩ : ∃ z, wE.heap.size = z := ⟨_, rfl⟩
                  have hC1w : wd.heap.size ≤ C1 := by rw [← hC1]; exact hs0
                  rw [hwB] at HBC hsz HC1 HO0 ⊢
                  rw [hC1] at hsz HC1
                  try rw [hC1]
                  try rw [show wd.heap.size = C1 from hC1]
                  have hC1l : C1 < wB.heap.size := by omega
                  have hne : C1 ≠ E := by omega
                  have hEl2 : E < wB.heap.size := by omega
                  clear hEl
                  have hEl := hEl2
                  clear hEl2
                  clear hsz hwB hC1 hs0
                  refine hK.out _ _ ?_ (fun hHeld => ?_)
                  · exact HSC.out _ HBC.out
                  clear hK K
                  try simp only [Act.put, List.setIfInBounds_toArray, List.set_cons_zero, List.set_cons_succ]
                  refine wpAnyH_ready (rs := [2]) (by kernel_rfl) (by simp) ?_
                  refine AllReadyH.cons rfl (fun K hK => ?_) ?_
                  · have hs0 := HBC.out.size
                    refine step_append_lies _ (by rfl) _ _ _ (by rfl) E 46 i0 _ 10 144 Tryz.underlying22 HI.out HZ0.out HZ1.out HZ2.out rfl (by omega) (.slice (some ⟨E, 0, none⟩) 0 0) 0 [] (by rfl) HO0.out ⟨bl, ol, none⟩ m cl (rowL (m * 10) (rowF 10 clC zs)) (by rfl) (rowL_length _ _) (HSRC.out _ HBC.out) rowC_one (by omega) (by unfold maxLen; omega) (by omega) (by omega) _ rfl ?_
                    intro g1 cap1 wF hown hgrow hat hlt
                    rw [Nat.zero_add, List.nil_append] at hown
                    rw [Nat.zero_add]
                    show K (Act.put _ (some 49) _) _
                    have HO1 := Lib.hid hown
                    have hrow : ∀ k, (Value.slice (some ⟨E, 0, none⟩) 0 0).ownBlock = some k → k = E := fun k hk => by injection hk with hk; exact hk.symm
                    replace HC1 : Hid (Has wF C1 #[.int .i64 x.kind, .string x.name, y0, y1, y2, y3, y4, y5, .slice a.A x.n a.c, .int .i64 x.amt] 46) := Lib.hid ((hgrow.block C1 HC1.out.lt (fun e => hne (hrow _ e.symm))).trans HC1.out)
                    replace HBC := Lib.hid (HBC.out.grown hgrow hs0 (fun k hk => by have := hrow k hk; omega))
                    have hEl2 : E < wF.heap.size := by have := hgrow.size; omega
                    clear hown hgrow hat hlt hrow hs0 hEl HO0
                    have hEl := hEl2
                    clear hEl2
                    refine hK.out _ _ ?_ (fun hHeld => ?_)
                    · exact HSC.out _ HBC.out
                    clear hK K
                    try simp only [Act.put, List.setIfInBounds_toArray, List.set_cons_zero, List.set_cons_succ]
                    refine wpAnyH_ready (rs := [5]) (by kernel_rfl) (by simp) ?_
                    refine AllReadyH.cons rfl (fun K hK => ?_) ?_
                    · have hs0 := HBC.out.size
                      refine step_append_lies _ (by rfl) _ _ _ (by rfl) E 46 i0 _ 10 144 Tryz.underlying22 HI.out HZ0.out HZ1.out HZ2.out rfl (by omega) (.slice (some ⟨g1, 0, none⟩) m cap1) m (rowL (m * 10) (rowF 10 clC zs)) (by rfl) HO1.out ⟨C1, 0, none⟩ 1 1 [.int .i64 x.kind, .string x.name, y0, y1, y2, y3, y4, y5, .slice a.A x.n a.c, .int .i64 x.amt] (by rfl) rfl (World.news_of_block (cs := #[.int .i64 x.kind, .string x.name, y0, y1, y2, y3, y4, y5, .slice a.A x.n a.c, .int .i64 x.amt]) (t := 46) (fr := (0, 0)) HC1.out) HCN.out (by omega) (by unfold maxLen; omega) (by omega) (by omega) _ rfl ?_
                      intro g2 cap2 wG hown hgrow hat hlt
                      show K (Act.put _ (some 52) _) _
                      have hbase := (own_lt HO1.out rfl).2
                      replace HBC := Lib.hid (HBC.out.grown hgrow hs0 (fun k hk => by have := (own_lt HO1.out hk).2; omega))
                      rw [rowF_snoc (s := 10) (vs := [.int .i64 x.kind, .string x.name, y0, y1, y2, y3, y4, y5, .slice a.A x.n a.c, .int .i64 x.amt]) (cf := clC) (x := (x, a)) rfl HG10.out] at hown
                      have HO2 := Lib.hid hown
                      clear hown hgrow hat hlt hs0 HO1 HC1 hbase
                      refine hK.out _ _ ?_ (fun hHeld => ?_)
                      · exact HSC.out _ HBC.out
                      clear hK K
                      try simp only [Act.put, List.setIfInBounds_toArray, List.set_cons_zero, List.set_cons_succ]
                      refine wpAnyH_take (i := 6) (v := ?v10) rfl (by kernel_rfl) (by kernel_rfl) (by kernel_rfl) (fun _ _ _ h => h) (Or.inl ⟨by rfl, ?hy10⟩) (by assumption) ?rest10
                      case hy10 => (intro wx hSw; (try dsimp only at hSw); go_simp; try with_reducible rfl)
                      show wpAnyH _ _ _ _ _ _ _ (Act.put _ (some 13) _) _
                      try simp only [Act.put, List.setIfInBounds_toArray, List.set_cons_zero, List.set_cons_succ]
                      refine wpAnyH_done (by kernel_rfl) ?_ _
                      have ho9 := Own.of_row (F := rowF 10 clC (updN zs m (x, a))) HO2.out (fun j hj => rowL_get _ _ j hj)
                      have hb9 := ho9.base_le
                      have HC9 := Lib.hid (ho9.cellsS (S := fun i => wd.heap.size ≤ i ∧ i < wG.heap.size) ⟨by omega, ho9.lt⟩)
                      clear ho9 hb9 HO2
                      go_wp2_with fail
                      go_meet
                      case rel => exact ⟨_, _, rfl, HBC, HC9⟩
                    exact AllReadyH.nil
                  exact AllReadyH.nil
                exact AllReadyH.nil
              refine AllReadyH.cons rfl (fun K hK => ?_) ?_
              · go_simp; try rw [show (wd.alloc (.cells #[.int .i64 x.kind, .string x.name, y0, y1, y2, y3, y4, y5, .slice a.A x.n a.c, .int .i64 x.amt] 46)).drew = wd.drew.alloc (.cells #[.int .i64 x.kind, .string x.name, y0, y1, y2, y3, y4, y5, .slice a.A x.n a.c, .int .i64 x.amt] 46) from rfl]
                have hs0 := HBC.out.size
                have HC1 := Lib.hid (Has.new wd.drew #[.int .i64 x.kind, .string x.name, y0, y1, y2, y3, y4, y5, .slice a.A x.n a.c, .int .i64 x.amt] 46)
                have hsz : (wd.drew.alloc (.cells #[.int .i64 x.kind, .string x.name, y0, y1, y2, y3, y4, y5, .slice a.A x.n a.c, .int .i64 x.amt] 46)).heap.size = wd.drew.heap.size + 1 := by simp
                replace HBC := Lib.hid (HBC.out.alloc hs0 (.cells #[.int .i64 x.kind, .string x.name, y0, y1, y2, y3, y4, y5, .slice a.A x.n a.c, .int .i64 x.amt] 46))
                obtain ⟨wB, hwB⟩ : ∃ z, wd.drew.alloc (.cells #[.int .i64 x.kind, .string x.name, y0, y1, y2, y3, y4, y5, .slice a.A x.n a.c, .int .i64 x.amt] 46) = z := ⟨_, rfl⟩
                obtain ⟨C1, hC1⟩ : ∃ z, wd.drew.heap.size = z := ⟨_, rfl⟩
                have hC1w : wd.heap.size ≤ C1 := by rw [← hC1]; exact hs0
                rw [hwB] at HBC hsz HC1 ⊢
                rw [hC1] at hsz HC1
                try rw [hC1]
                try rw [show wd.heap.size = C1 from hC1]
                have hC1l : C1 < wB.heap.size := by omega
                clear hsz hwB hC1 hs0
                refine hK.out _ _ ?_ (fun hHeld => ?_)
                · exact HSC.out _ HBC.out
                clear hK K
                try simp only [Act.put, List.setIfInBounds_toArray, List.set_cons_zero, List.set_cons_succ]
                refine wpAnyH_ready (rs := [0]) (by kernel_rfl) (by simp) ?_
                refine AllReadyH.cons rfl (fun K hK => ?_) ?_
                · go_simp
                  have hs0 := HBC.out.size
                  have HO0 := Lib.hid (own_empty wB 46 10)
                  have hsz : (wB.alloc (.cells #[] 46)).heap.size = wB.heap.size + 1 := by simp
                  replace HC1 := Lib.hid (HC1.out.alloc (.cells #[] 46))
                  replace HBC := Lib.hid (HBC.out.alloc hs0 (.cells #[] 46))
                  obtain ⟨wE, hwE⟩ : ∃ z, wB.alloc (.cells #[] 46) = z := ⟨_, rfl⟩
                  obtain ⟨E, hE⟩ : ∃ z, wB.heap.size = z := ⟨_, rfl⟩
                  have hEw : wd.heap.size ≤ E := by rw [← hE]; exact hs0
                  rw [hwE] at HBC hsz HO0 HC1 ⊢
                  rw [hE] at hsz HO0
                  try rw [hE]
                  try rw [show wd.heap.size = E from hE]
                  have hEl : E < wE.heap.size := by omega
                  have hne : C1 ≠ E := by omega
                  clear hsz hwE hE hs0
                  refine hK.out _ _ ?_ (fun hHeld => ?_)
                  · exact HSC.out _ HBC.out
                  clear hK K
                  try simp only [Act.put, List.setIfInBounds_toArray, List.set_cons_zero, List.set_cons_succ]
                  refine wpAnyH_ready (rs := [2]) (by kernel_rfl) (by simp) ?_
                  refine AllReadyH.cons rfl (fun K hK => ?_) ?_
                  · have hs0 := HBC.out.size
                    refine step_append_lies _ (by rfl) _ _ _ (by rfl) E 46 i0 _ 10 144 Tryz.underlying22 HI.out HZ0.out HZ1.out HZ2.out rfl (by omega) (.slice (some ⟨E, 0, none⟩) 0 0) 0 [] (by rfl) HO0.out ⟨bl, ol, none⟩ m cl (rowL (m * 10) (rowF 10 clC zs)) (by rfl) (rowL_length _ _) (HSRC.out _ HBC.out) rowC_one (by omega) (by unfold maxLen; omega) (by omega) (by omega) _ rfl ?_
                    intro g1 cap1 wF hown hgrow hat hlt
                    rw [Nat.zero_add, List.nil_append] at hown
                    rw [Nat.zero_add]
                    show K (Act.put _ (some 49) _) _
                    have HO1 := Lib.hid hown
                    have hrow : ∀ k, (Value.slice (some ⟨E, 0, none⟩) 0 0).ownBlock = some k → k = E := fun k hk => by injection hk with hk; exact hk.symm
                    replace HC1 : Hid (Has wF C1 #[.int .i64 x.kind, .string x.name, y0, y1, y2, y3, y4, y5, .slice a.A x.n a.c, .int .i64 x.amt] 46) := Lib.hid ((hgrow.block C1 HC1.out.lt (fun e => hne (hrow _ e.symm))).trans HC1.out)
                    replace HBC := Lib.hid (HBC.out.grown hgrow hs0 (fun k hk => by have := hrow k hk; omega))
                    have hEl2 : E < wF.heap.size := by have := hgrow.size; omega
                    clear hown hgrow hat hlt hrow hs0 hEl HO0
                    have hEl := hEl2
                    clear hEl2
                    refine hK.out _ _ ?_ (fun hHeld => ?_)
                    · exact HSC.out _ HBC.out
                    clear hK K
                    try simp only [Act.put, List.setIfInBounds_toArray, List.set_cons_zero, List.set_cons_succ]
                    refine wpAnyH_ready (rs := [5]) (by kernel_rfl) (by simp) ?_
                    refine AllReadyH.cons rfl (fun K hK => ?_) ?_
                    · have hs0 := HBC.out.size
                      refine step_append_lies _ (by rfl) _ _ _ (by rfl) E 46 i0 _ 10 144 Tryz.underlying22 HI.out HZ0.out HZ1.out HZ2.out rfl (by omega) (.slice (some ⟨g1, 0, none⟩) m cap1) m (rowL (m * 10) (rowF 10 clC zs)) (by rfl) HO1.out ⟨C1, 0, none⟩ 1 1 [.int .i64 x.kind, .string x.name, y0, y1, y2, y3, y4, y5, .slice a.A x.n a.c, .int .i64 x.amt] (by rfl) rfl (World.news_of_block (cs := #[.int .i64 x.kind, .string x.name, y0, y1, y2, y3, y4, y5, .slice a.A x.n a.c, .int .i64 x.amt]) (t := 46) (fr := (0, 0)) HC1.out) HCN.out (by omega) (by unfold maxLen; omega) (by omega) (by omega) _ rfl ?_
                      intro g2 cap2 wG hown hgrow hat hlt
                      show K (Act.put _ (some 52) _) _
                      have hbase := (own_lt HO1.out rfl).2
                      replace HBC := Lib.hid (HBC.out.grown hgrow hs0 (fun k hk => by have := (own_lt HO1.out hk).2; omega))
                      rw [rowF_snoc (s := 10) (vs := [.int .i64 x.kind, .string x.name, y0, y1, y2, y3, y4, y5, .slice a.A x.n a.c, .int .i64 x.amt]) (cf := clC) (x := (x, a)) rfl HG10.out] at hown
                      have HO2 := Lib.hid hown
                      clear hown hgrow hat hlt hs0 HO1 HC1 hbase
                      refine hK.out _ _ ?_ (fun hHeld => ?_)
                      · exact HSC.out _ HBC.out
                      clear hK K
                      try simp only [Act.put, List.setIfInBounds_toArray, List.set_cons_zero, List.set_cons_succ]
                      refine wpAnyH_take (i := 6) (v := ?v11) rfl (by kernel_rfl) (by kernel_rfl) (by kernel_rfl) (fun _ _ _ h => h) (Or.inl ⟨by rfl, ?hy11⟩) (by assumption) ?rest11
                      case hy11 => (intro wx hSw; (try dsimp only at hSw); go_simp; try with_reducible rfl)
                      show wpAnyH _ _ _ _ _ _ _ (Act.put _ (some 13) _) _
                      try simp only [Act.put, List.setIfInBounds_toArray, List.set_cons_zero, List.set_cons_succ]
                      refine wpAnyH_done (by kernel_rfl) ?_ _
                      have ho9 := Own.of_row (F := rowF 10 clC (updN zs m (x, a))) HO2.out (fun j hj => rowL_get _ _ j hj)
                      have hb9 := ho9.base_le
                      have HC9 := Lib.hid (ho9.cellsS (S := fun i => wd.heap.size ≤ i ∧ i < wG.heap.size) ⟨by omega, ho9.lt⟩)
                      clear ho9 hb9 HO2
                      go_wp2_with fail
                      go_meet
                      case rel => exact ⟨_, _, rfl, HBC, HC9⟩
                    exact AllReadyH.nil
                  exact AllReadyH.nil
                exact AllReadyH.nil
              exact AllReadyH.nil
            case rest =>
              obtain ⟨A3, c3, rfl, HBX, HC3⟩ := hcut
              have hkx := Keeps.of_below HBX.out b
              have hszd := HBX.out.size
              have hAn := HN.out.lt
              replace HL := Lib.hid (HL.out.keeps hkx hb)
              replace HIN := Lib.hid (HIN.out.keep (aS_keeps hkx hb).1 (aS_keeps hkx hb).2)
              have HL3 : Hid (LisC G wc An A3 (m + 1) (updN zs m (x, a))) := Lib.hid ⟨HC3.out.keep (fun _ _ _ => rfl) (fun i hi => ⟨by omega, by omega, hi.2, fun ad e h => by have := hAn ad e; omega⟩), fun i hi => by
                by_cases e : i = m
                · subst e; rw [updN_at]; exact ⟨HIN.out, HXN.out.2⟩
                · rw [updN_lt (by omega)]; exact HL.out.2 i (by omega)⟩
              replace HN := Lib.hid (HN.out.keeps hkx hb)
              replace HK := Lib.hid (HK.out.trans hkx)
              replace HD := Lib.hid (HD.out.below HBX.out HD.out.lt)
              replace HE := Lib.hid (HE.out.keeps hkx (by omega))
              replace HO' := Lib.hid (HO'.out.below HBX.out HO'.out.lt)
              have HU3 := Lib.hid (HU.out.snoc (x := (x, a)) HXN.out.1)
              have HR3 := Lib.hid (HRC.out A3 (m + 1) c3 (fun i => (updN zs m (x, a) i).1) wc (by omega) (fun k hk => (HL3.out.2 k hk).2) HK.out ⟨by unfold big; omega, fun i => (updN zs m (x, a) i).2, HL3.out.1.to (fun i hi => hi.2.2.1), fun i hi => (HL3.out.2 i hi).1.to (fun i hi => hi.2.2.1)⟩)
              have HNX : Hid (nameB x.name = true) := Lib.hid HXN.out.2.2.1
              obtain ⟨kx, hkx2⟩ : ∃ z, x.kind = z := ⟨_, rfl⟩
              obtain ⟨nx, hnx2⟩ : ∃ z, x.name = z := ⟨_, rfl⟩
              rw [hkx2, hnx2] at HO'
              rw [hnx2] at HNX
              clear hkx hszd hAn HIN HO HXN HBX HC3 HSRC HSC HG10 HCN HI HZ0 HZ1 HZ2 HBC hkx2 hnx2 hbl hHw hsw1 hsG hs1
              obtain ⟨e0, e1, e2⟩ := HE.out.rules
              go_wp2_with fail
              refine HR3.out.mono ?_
              rintro r w2 ⟨⟨ru, rv, rfl⟩, hb2⟩
              have hkx := Keeps.of_below hb2 b
              replace HL := Lib.hid (HL.out.keeps hkx hb)
              replace HL3 := Lib.hid (HL3.out.keeps hkx hb)
              replace HN := Lib.hid (HN.out.keeps hkx hb)
              replace HK := Lib.hid (HK.out.trans hkx)
              replace HD := Lib.hid (HD.out.below hb2 HD.out.lt)
              replace HE := Lib.hid (HE.out.keeps hkx (by omega))
              replace HO' := Lib.hid (HO'.out.below hb2 HO'.out.lt)
              clear hkx hb2 HR3 e0 e1 e2
              by_cases hv : rv = 0
              · have q1 : (rv != 0) = false := by rw [hv]; rfl
                have q2 : (rv == 0) = true := by rw [hv]; rfl
                clear hv
                obtain ⟨f0, f1, f2⟩ := HO'.out.rules
                by_cases hk1x : kx = 1
                · subst hk1x
                  obtain ⟨j0, hj0, hz0, hz1, hz2⟩ := info_parts str_all
                  have HJ := Lib.hid hj0
                  have HZ0 := Lib.hid hz0
                  have HZ1 := Lib.hid hz1
                  have HZ2 := Lib.hid hz2
                  have hs2G : G + 1 ≤ w2.heap.size := by have := HE.out.lt; omega
                  clear hj0 hz0 hz1 hz2
                  go_wp2_with ((at_builtin; refine wpList_append_lies _ rfl _ _ 40 rfl (G + 1) 9 j0 _ 1 16 Tryz.underlying40 HJ.out HZ0.out HZ1.out HZ2.out rfl (by omega) _ nn (rowL nn fun i => .string (f i)) rfl (HN.out.1.alloc _) ⟨w2.heap.size, 0, none⟩ 1 1 [.string nx] rfl rfl (World.news_of_block (cs := #[.string nx]) (t := 9) (fr := (0, 0)) (heap_alloc_new w2 _)) (fun u hu => by rw [List.mem_singleton] at hu; subst hu; rfl) (by omega) (by unfold maxLen; omega) (by omega) (by simp; omega) (w2.heap.size + 1) (by simp) ?_; intro gg cap w7 hown hgrow hat hlt7))
                  obtain ⟨HL7, HN7⟩ := names_next HL3.out HN.out HNX.out hgrow hat hown
                  have hb7 : Below (G + 1) w2 w7 := Below.grown (Below.alloc (Below.refl (G + 1) _) hs2G _) hgrow (by simp; omega) (fun q hq => (own_lt HN.out.1 hq).2)
                  have HK7 := Lib.hid (HK.out.then hb7 (by omega))
                  have HD7 := Lib.hid (HD.out.below hb7 (by omega))
                  have HE7 := Lib.hid (HE.out.below hb7 (Nat.lt_succ_self G))
                  clear hown hgrow hat hlt7 hb7 f0 f1 f2 HL HL3 HN HK HD HE HO'
                  replace HL7 := Lib.hid HL7
                  replace HN7 := Lib.hid HN7
                  go_wp2_with fail
                  go_roundw
                  case rel => exact ⟨kk + 1, m + 1, nn + 1, A3, some ⟨gg, 0, none⟩, c3, cap, updN zs m (x, a), updN κ m kk, _, rfl, rfl, by go_num, ⟨by omega, by omega⟩, ⟨by omega, by omega⟩, by omega, HL7, HU3, HN7, HE7, HK7, HD7⟩
                  case measure => simp [intOf]; omega
                · have q3 : (kx == 1) = false := by rw [beq_eq_false_iff_ne]; exact hk1x
                  go_wp2_with fail
                  go_roundw
                  case rel => exact ⟨kk + 1, m + 1, nn, A3, An, c3, cn, updN zs m (x, a), updN κ m kk, f, rfl, rfl, by go_num, ⟨by omega, by omega⟩, ⟨by omega, by omega⟩, by omega, HL3, HU3, HN, HE, HK, HD⟩
                  case measure => simp [intOf]; omega
              · have q2 : (rv == 0) = false := by rw [beq_eq_false_iff_ne]; exact hv
                have q1 : (rv != 0) = true := by rw [bne, q2]; rfl
                have HU2 := Lib.hid (HU.out.more (show kk ≤ kk + 1 by omega))
                go_wp2_with fail
                go_roundw
                case rel => exact ⟨kk + 1, m, nn, some ⟨bl, ol, none⟩, An, cl, cn, zs, κ, f, rfl, rfl, by go_num, ⟨by omega, by omega⟩, ⟨by omega, by omega⟩, by omega, HL, HU2, HN, HE, HK, HD⟩
                case measure => simp [intOf]; omega
      · have hk1 : (N : Int) < kk := by omega
        have hk2 : decide ((kk : Int) ≤ N) = false := by rw [decide_eq_false_iff_not]; omega
        go_wp2_with fail
        go_ret
        exact HL.out.madeL hGw ⟨hm.1, by omega⟩ HU.out hkk.2 HK.out HD.out
end Go.Proofs.YtlbkhhbbkedhkaaGreatDoor
