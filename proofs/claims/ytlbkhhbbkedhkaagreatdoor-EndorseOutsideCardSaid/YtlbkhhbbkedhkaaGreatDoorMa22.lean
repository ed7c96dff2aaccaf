/- Reference 9: within, nodeError. Reference 9: nodesError. Reference 9: backsError. -/
import Derived.Test.YtlbkhhbbkedhkaaGreatDoorMa21
namespace Go.Proofs.YtlbkhhbbkedhkaaGreatDoor
open Go.RowKit
set_option linter.unusedVariables false

set_option maxRecDepth 100000 in
set_option maxHeartbeats 4000000 in
theorem within9_any (A : Option Addr) (c n : Nat) (f : Nat → ByteArray) (s : ByteArray) (w : World) (h : Strs w w.heap.size A n f) (hn : n ≤ 100000) :
    Calls Tryz.prog 96 #[.slice A n c, .string s] w (fun r w' => (∃ v : Bool, r = .returned (.bool v)) ∧ w = w') := by
  have HX := Lib.hid h
  clear h
  go_enter Tryz.func96, Tryz.ntmps96
  go_wp2_with fail
  go_loopw [5] (fun i wr => ∃ k : Nat, k ≤ n ∧ i = .int .i64 k ∧ w = wr) (fun i _ => n - (intOf i).toNat)
  case atStart => exact ⟨0, Nat.zero_le _, rfl, rfl⟩
  case round =>
    obtain ⟨k, hk, rfl, rfl⟩ := hrel
    by_cases hlt : k < n
    · obtain ⟨bb, o, hAa, hbb, hcc⟩ := Cells.plain HX.out (by omega)
      subst hAa
      have c0 : w.cell? ⟨bb, o + k, none⟩ = some (.string (f k)) := hcc k hlt
      have hk0 : (0 : Int) ≤ k := by omega
      have hk1 : (k : Int) < n := by omega
      obtain ⟨nm, hnm⟩ : ∃ z, f k = z := ⟨_, rfl⟩
      rw [hnm] at c0
      clear hnm hcc
      have hnum : IntKind.i64.wrap ((k : Int) + 1) = ((k + 1 : Nat) : Int) := by rw [IntKind.wrap_i64]; omega
      by_cases he : nm = s
      · have he' := bytes_eq.2 he
        clear he
        go_wp2_with fail
        go_ret
        exact ⟨⟨true, rfl⟩, rfl⟩
      · have he' := bytes_ne he
        go_wp2_with fail
        go_roundw
        case rel => exact ⟨k + 1, by omega, by go_num, trivial⟩
        case measure => simp [intOf]; omega
    · have hkn : k = n := by omega
      subst hkn
      have hdd : decide ((k : Int) < k) = false := by rw [decide_eq_false_iff_not]; omega
      go_wp2_with fail
      go_ret
      exact ⟨⟨false, rfl⟩, rfl⟩

theorem SchIn.few {S : Nat → Prop} {w : World} {A : Option Addr} {n k : Nat} {ats : Nat → Att} (h : SchIn S w A n ats) (hk : k < n) : (ats k).nw ≤ 12 := by
  obtain ⟨_, _, _, h2⟩ := h
  exact (h2 k hk).2.2.1.1
/-- a number, and nothing below is changed -/
def AnyI (w : World) (r : Ending) (w' : World) : Prop := (∃ v : Int, r = .returned (.int .i64 v)) ∧ Below w.heap.size w w'
set_option maxRecDepth 100000 in
set_option maxHeartbeats 8000000 in
theorem nodeerror_any (A B : Option Addr) (c n m d : Nat) (ats : Nat → Att) (cs : Nat → Cl) (op : Int) (name : ByteArray) (nw : Nat) (ws : Nat → ByteArray) (lw hg : Int) (na : Nat) (xs : Nat → Ex) (a : EA) (w : World) (hs : SchIn (lo w.heap.size) w A n ats) (h : ClsAt w w.heap.size B m cs) (hm : m ≤ 100000) (hx : ExAt w w.heap.size (.mk op name nw ws lw hg na xs) a) (hnw : nw ≤ 12) :
    Calls Tryz.prog 90 #[.agg #[.slice A n c], .slice B m d, .agg ((Ex.mk op name nw ws lw hg na xs).cells a)] w (AnyI w) := by
  obtain ⟨_, _, hst, _⟩ := hx
  obtain ⟨Aw, cw, Aa, ca⟩ := a
  have HST : Hid (Strs w w.heap.size Aw nw ws) := Lib.hid hst
  have HSC := Lib.hid hs
  have HCL := Lib.hid h
  have hn1 := hs.1
  have HAI := Lib.hid at_info
  clear hs h hst
  unfold Ex.cells Ex.row
  simp only
  obtain ⟨G, hG⟩ : ∃ G, w.heap.size = G := ⟨_, rfl⟩
  have HGE := Lib.hid hG
  go_enter Tryz.func90, Tryz.ntmps90
  go_upto_region 1 with (fail)
  have HB : Hid (Below w.heap.size w ((w.alloc (.cells #[.slice A n c] 56)).alloc (.cells #[.int .i64 op, .string name, .slice Aw nw cw, .int .i64 lw, .int .i64 hg, .slice Aa na ca] 43))) := Lib.hid (below_two _ _ _)
  have HE := Lib.hid ((Has.new w #[.slice A n c] 56).alloc (.cells #[.int .i64 op, .string name, .slice Aw nw cw, .int .i64 lw, .int .i64 hg, .slice Aa na ca] 43))
  have HF := Lib.hid (Has.new' (w.alloc (.cells #[.slice A n c] 56)) (w.heap.size + 1) #[.int .i64 op, .string name, .slice Aw nw cw, .int .i64 lw, .int .i64 hg, .slice Aa na ca] 43 (by simp))
  obtain ⟨W, hW⟩ : ∃ W, (w.alloc (.cells #[.slice A n c] 56)).alloc (.cells #[.int .i64 op, .string name, .slice Aw nw cw, .int .i64 lw, .int .i64 hg, .slice Aa na ca] 43) = W := ⟨_, rfl⟩
  rw [hW] at HB HE HF ⊢
  rw [hG] at HE HF
  try rw [hG]
  clear hW hG
  have hGw : w.heap.size = G := HGE.out
  obtain ⟨f0, f1, f2⟩ := HF.out.rules
  obtain ⟨e0, e1, e2⟩ := HE.out.rules
  go_wp2_with fail
  refine (index_any A c n ats name W (HSC.out.keep (fun i o hi => HB.out.cell (p := ⟨i, o, none⟩) hi) (fun i hi => Nat.lt_of_lt_of_le hi HB.out.size))).mono ?_
  rintro r w1 ⟨⟨k, v, rfl, hkv⟩, hb⟩
  have HKV := Lib.hid hkv
  replace HE := Lib.hid (HE.out.below hb e2)
  replace HF := Lib.hid (HF.out.below hb f2)
  replace HB := Lib.hid (HB.out.trans (hb.mono HB.out.size))
  clear hb hkv e0 e1 e2 f0 f1 f2
  have HS1 : Hid (∀ W', Below w.heap.size w W' → SchIn (lo w.heap.size) W' A n ats) := Lib.hid fun W' hb => HSC.out.keep (fun i o hi => hb.cell (p := ⟨i, o, none⟩) hi) (fun i hi => hi)
  have HT1 : Hid (∀ W', Below w.heap.size w W' → Strs W' w.heap.size Aw nw ws) := Lib.hid fun W' hb => Cells.below HST.out hb
  have HC1 : Hid (∀ W', Below w.heap.size w W' → ClsAt W' W'.heap.size B m cs) := Lib.hid fun W' hb => HCL.out.below hb hb.size
  obtain ⟨f0, f1, f2⟩ := HF.out.rules
  obtain ⟨e0, e1, e2⟩ := HE.out.rules
  by_cases h3 : op = 3
  · subst h3
    go_wp2_with fail
    refine (definition_any B d m cs name w1 (HC1.out _ HB.out) hm).mono ?_
    rintro r w2 ⟨⟨k2, v2, rfl, _⟩, rfl⟩
    cases v with
    | false =>
      cases v2 with
      | false =>
        go_wp2_with fail
        go_ret
        exact ⟨⟨_, rfl⟩, HB.out⟩
      | true =>
        go_wp2_with fail
        go_ret
        exact ⟨⟨_, rfl⟩, HB.out⟩
    | true =>
      have hkn := HKV.out rfl
      obtain ⟨bb, o, q, hAa, hbb, hrg, _⟩ := (HS1.out _ HB.out).get hkn
      subst hAa
      have c1 : w1.cell? ⟨bb, o + k * 5 + 1, none⟩ = some (.int .i64 (ats k).kind) := hrg 1 _ rfl
      have hk0 : (0 : Int) ≤ k := by omega
      have hk1 : (k : Int) < n := by omega
      obtain ⟨kd, hkd⟩ : ∃ z, (ats k).kind = z := ⟨_, rfl⟩
      rw [hkd] at c1
      clear hkd hrg
      by_cases hq : kd = 3
      · have q1 : (kd != 3) = false := by rw [hq]; rfl
        have q2 : (kd == 3) = true := by rw [hq]; rfl
        go_wp2_with fail
        go_ret
        exact ⟨⟨_, rfl⟩, HB.out⟩
      · have q1 : (kd == 3) = false := by rw [beq_eq_false_iff_ne]; exact hq
        have q2 : (kd != 3) = true := by rw [bne, q1]; rfl
        go_wp2_with fail
        go_ret
        exact ⟨⟨_, rfl⟩, HB.out⟩
  · have o3' : ((op : Int) == 3) = false := by rw [beq_eq_false_iff_ne]; omega
    by_cases h4 : op = 4
    · subst h4
      cases v with
      | false =>
        go_wp2_with fail
        go_ret
        exact ⟨⟨_, rfl⟩, HB.out⟩
      | true =>
        have hkn := HKV.out rfl
        obtain ⟨bb, o, q, hAa, hbb, hrg, hws, hwc, _⟩ := (HS1.out _ HB.out).get hkn
        subst hAa
        have HRG : Hid (w1.rangeAt bb (o + k * 5) (#[.string (ats k).name, .int .i64 (ats k).kind, .slice q.1 (ats k).nw q.2, .int .i64 (ats k).lo, .int .i64 (ats k).hi] : Array Value).toList) := Lib.hid hrg
        have HWS : Hid (Strs w1 w.heap.size q.1 (ats k).nw (ats k).ws) := Lib.hid (hws.to fun _ h => h)
        have HNW : Hid ((ats k).nw ≤ 12) := Lib.hid ((HS1.out _ HB.out).few hkn)
        have hk0 : (0 : Int) ≤ k := by omega
        have hk1 : (k : Int) < n := by omega
        obtain ⟨anm, hanm⟩ : ∃ z, (ats k).name = z := ⟨_, rfl⟩
        obtain ⟨kd, hkd⟩ : ∃ z, (ats k).kind = z := ⟨_, rfl⟩
        obtain ⟨an, han⟩ : ∃ z, (ats k).nw = z := ⟨_, rfl⟩
        obtain ⟨al, hal⟩ : ∃ z, (ats k).lo = z := ⟨_, rfl⟩
        obtain ⟨ah, hah⟩ : ∃ z, (ats k).hi = z := ⟨_, rfl⟩
        obtain ⟨aw, haw⟩ : ∃ z, (ats k).ws = z := ⟨_, rfl⟩
        obtain ⟨qA, qc⟩ := q
        simp only [hanm, hkd, han, hal, hah, haw] at HRG HWS HNW
        clear hrg hws hwc hanm hkd han hal hah haw
        have HZ : Hid (Has (w1.alloc (.cells #[.string { data := #[] }, .int .i64 0, .slice none 0 0, .int .i64 0, .int .i64 0] 80)) w1.heap.size #[.string { data := #[] }, .int .i64 0, .slice none 0 0, .int .i64 0, .int .i64 0] 80) := Lib.hid (Has.new w1 _ _)
        go_upto_region 13 with (first
          | (refine wpList_load_mid ?_ 80 (.tmp 55) ?_ bb (o + k * 5) ?_ _ _ HRG.out Tryz.underlying80 ?_ HAI.out ?_; rfl; rfl; rfl; rfl)
          | (refine wpList_store_has ?_ 80 (.tmp 11) (.tmp 56) ?_ w1.heap.size ?_ #[.string anm, .int .i64 kd, .slice qA an qc, .int .i64 al, .int .i64 ah] ?_ _ _ HZ.out HAI.out ?_ ?_ ?_; rfl; rfl; rfl; rfl; rfl; rfl; intro w5 hh5 hl5))
        have hbm := below_alloc_leaves hl5
        have HH := Lib.hid hh5
        replace HE := Lib.hid (HE.out.below hbm e2)
        replace HF := Lib.hid (HF.out.below hbm f2)
        have hGs := HB.out.size
        replace HB := Lib.hid (HB.out.trans (hbm.mono HB.out.size))
        replace HWS := Lib.hid (Cells.below HWS.out (hbm.mono hGs))
        obtain ⟨H, hH⟩ : ∃ H, w1.heap.size = H := ⟨_, rfl⟩
        rw [hH] at HH ⊢
        clear hh5 hl5 hbm HZ HRG hH e0 e1 e2 f0 f1 f2
        obtain ⟨f0, f1, f2⟩ := HF.out.rules
        obtain ⟨e0, e1, e2⟩ := HE.out.rules
        obtain ⟨z0, z1, z2⟩ := HH.out.rules
        by_cases hq : kd = 1
        · have q1 : (kd != 1) = false := by rw [hq]; rfl
          have q2 : (kd == 1) = true := by rw [hq]; rfl
          clear HE e0 e1 e2 hq
          go_wp2_with fail
          go_loopw [12] (fun i wr => ∃ j : Nat, j ≤ nw ∧ i = .int .i64 j ∧ Hid (Has wr H #[.string anm, .int .i64 kd, .slice qA an qc, .int .i64 al, .int .i64 ah] 80) ∧ Hid (Has wr (G + 1) #[.int .i64 4, .string name, .slice Aw nw cw, .int .i64 lw, .int .i64 hg, .slice Aa na ca] 43) ∧ Hid (Below w.heap.size w wr) ∧ Hid (Strs wr w.heap.size qA an aw)) (fun i _ => nw - (intOf i).toNat)
          case atStart => exact ⟨0, Nat.zero_le _, rfl, HH, HF, HB, HWS⟩
          case round =>
            clear HH HF HB HWS z0 z1 z2 f0 f1 f2
            obtain ⟨j, hj, rfl, HH, HF, HB, HWS⟩ := hrel
            obtain ⟨f0, f1, f2⟩ := HF.out.rules
            obtain ⟨z0, z1, z2⟩ := HH.out.rules
            by_cases hlt : j < nw
            · obtain ⟨qb, qo, hqA, hqb, hqc⟩ := Cells.plain (HT1.out _ HB.out) (by omega)
              subst hqA
              have hj0 : (0 : Int) ≤ j := by omega
              have hj1 : (j : Int) < nw := by omega
              have hnum : IntKind.i64.wrap ((j : Int) + 1) = ((j + 1 : Nat) : Int) := by rw [IntKind.wrap_i64]; omega
              obtain ⟨wd, hwd⟩ : ∃ z, ws j = z := ⟨_, rfl⟩
              have hc0 : wr.cell? ⟨qb, qo + j, none⟩ = some (.string wd) := by rw [← hwd]; exact hqc j hlt
              have HSS : Hid (wr.drew.cell? ⟨H, 2, none⟩ = some (.slice qA an qc) ∧ wr.drew.cell? ⟨G + 1, 2, none⟩ = some (.slice (some ⟨qb, qo, none⟩) nw cw) ∧ wr.drew.cell? ⟨qb, qo + j, none⟩ = some (.string wd)) := Lib.hid ⟨by rw [HH.out.drew.cell]; rfl, by rw [HF.out.drew.cell]; rfl, hc0⟩
              clear hwd hqc
              go_upto_region 18 with (fail)
              go_region_held3 (fun W => W.cell? ⟨H, 2, none⟩ = some (.slice qA an qc) ∧ W.cell? ⟨G + 1, 2, none⟩ = some (.slice (some ⟨qb, qo, none⟩) nw cw) ∧ W.cell? ⟨qb, qo + j, none⟩ = some (.string wd)) (exact HSS.out) (first
                | (go_at_call 96; refine (within9_any qA qc an aw wd wr.drew ((Cells.below HWS.out (Below.drew (Below.refl _ _))).mono HB.out.size) (by have := HNW.out; omega)).mono ?_; rintro r w7 ⟨⟨v7, rfl⟩, rfl⟩))
              have HB7 : Hid (Below w.heap.size w wr.drew) := Lib.hid (Below.drew HB.out)
              cases v7 with
              | false =>
                go_wp2_with fail
                go_ret
                exact ⟨⟨_, rfl⟩, HB7.out⟩
              | true =>
                have HH7 := Lib.hid HH.out.drew
                have HF7 := Lib.hid HF.out.drew
                have HWS7 : Hid (Strs wr.drew w.heap.size qA an aw) := Lib.hid HWS.out
                clear HH HF HB HWS HSS z0 z1 z2 f0 f1 f2
                go_wp2_with fail
                go_roundw
                case rel => exact ⟨j + 1, by omega, by go_num, HH7, HF7, HB7, HWS7⟩
                case measure => simp [intOf]; omega
            · have hjn : j = nw := by omega
              subst hjn
              have hdd : decide ((j : Int) < j) = false := by rw [decide_eq_false_iff_not]; omega
              go_wp2_with fail
              go_ret
              exact ⟨⟨_, rfl⟩, HB.out⟩
        · have q1 : (kd == 1) = false := by rw [beq_eq_false_iff_ne]; exact hq
          have q2 : (kd != 1) = true := by rw [bne, q1]; rfl
          go_wp2_with fail
          go_ret
          exact ⟨⟨_, rfl⟩, HB.out⟩
    · have o4 : ((op : Int) == 4) = false := by rw [beq_eq_false_iff_ne]; omega
      by_cases h5 : op = 5
      · subst h5
        cases v with
        | false =>
          go_wp2_with fail
          go_ret
          exact ⟨⟨_, rfl⟩, HB.out⟩
        | true =>
          have hkn := HKV.out rfl
          obtain ⟨bb, o, q, hAa, hbb, hrg, hws, hwc, _⟩ := (HS1.out _ HB.out).get hkn
          subst hAa
          have HRG : Hid (w1.rangeAt bb (o + k * 5) (#[.string (ats k).name, .int .i64 (ats k).kind, .slice q.1 (ats k).nw q.2, .int .i64 (ats k).lo, .int .i64 (ats k).hi] : Array Value).toList) := Lib.hid hrg
          have HWS : Hid (Strs w1 w.heap.size q.1 (ats k).nw (ats k).ws) := Lib.hid (hws.to fun _ h => h)
          have HNW : Hid ((ats k).nw ≤ 12) := Lib.hid ((HS1.out _ HB.out).few hkn)
          have hk0 : (0 : Int) ≤ k := by omega
          have hk1 : (k : Int) < n := by omega
          obtain ⟨anm, hanm⟩ : ∃ z, (ats k).name = z := ⟨_, rfl⟩
          obtain ⟨kd, hkd⟩ : ∃ z, (ats k).kind = z := ⟨_, rfl⟩
          obtain ⟨an, han⟩ : ∃ z, (ats k).nw = z := ⟨_, rfl⟩
          obtain ⟨al, hal⟩ : ∃ z, (ats k).lo = z := ⟨_, rfl⟩
          obtain ⟨ah, hah⟩ : ∃ z, (ats k).hi = z := ⟨_, rfl⟩
          obtain ⟨aw, haw⟩ : ∃ z, (ats k).ws = z := ⟨_, rfl⟩
          obtain ⟨qA, qc⟩ := q
          simp only [hanm, hkd, han, hal, hah, haw] at HRG HWS HNW
          clear hrg hws hwc hanm hkd han hal hah haw
          have HZ : Hid (Has (w1.alloc (.cells #[.string { data := #[] }, .int .i64 0, .slice none 0 0, .int .i64 0, .int .i64 0] 80)) w1.heap.size #[.string { data := #[] }, .int .i64 0, .slice none 0 0, .int .i64 0, .int .i64 0] 80) := Lib.hid (Has.new w1 _ _)
          go_upto_region 24 with (first
            | (refine wpList_load_mid ?_ 80 (.tmp 83) ?_ bb (o + k * 5) ?_ _ _ HRG.out Tryz.underlying80 ?_ HAI.out ?_; rfl; rfl; rfl; rfl)
            | (refine wpList_store_has ?_ 80 (.tmp 13) (.tmp 84) ?_ w1.heap.size ?_ #[.string anm, .int .i64 kd, .slice qA an qc, .int .i64 al, .int .i64 ah] ?_ _ _ HZ.out HAI.out ?_ ?_ ?_; rfl; rfl; rfl; rfl; rfl; rfl; intro w5 hh5 hl5))
          have hbm := below_alloc_leaves hl5
          have HH := Lib.hid hh5
          replace HE := Lib.hid (HE.out.below hbm e2)
          replace HF := Lib.hid (HF.out.below hbm f2)
          have hGs := HB.out.size
          replace HB := Lib.hid (HB.out.trans (hbm.mono HB.out.size))
          replace HWS := Lib.hid (Cells.below HWS.out (hbm.mono hGs))
          obtain ⟨H, hH⟩ : ∃ H, w1.heap.size = H := ⟨_, rfl⟩
          rw [hH] at HH ⊢
          clear hh5 hl5 hbm HZ HRG hH e0 e1 e2 f0 f1 f2
          obtain ⟨f0, f1, f2⟩ := HF.out.rules
          obtain ⟨e0, e1, e2⟩ := HE.out.rules
          obtain ⟨z0, z1, z2⟩ := HH.out.rules
          by_cases hq : kd = 2
          · have q1 : (kd != 2) = false := by rw [hq]; rfl
            have q2 : (kd == 2) = true := by rw [hq]; rfl
            clear HE e0 e1 e2 hq
            by_cases g1 : lw < al
            · go_wp2_with fail
              go_ret
              exact ⟨⟨_, rfl⟩, HB.out⟩
            · by_cases g2 : hg > ah
              · have g2' : ah < hg := g2
                go_wp2_with fail
                go_ret
                exact ⟨⟨_, rfl⟩, HB.out⟩
              · have g2' : ¬ ah < hg := g2
                go_wp2_with fail
                go_ret
                exact ⟨⟨_, rfl⟩, HB.out⟩
          · have q1 : (kd == 2) = false := by rw [beq_eq_false_iff_ne]; exact hq
            have q2 : (kd != 2) = true := by rw [bne, q1]; rfl
            go_wp2_with fail
            go_ret
            exact ⟨⟨_, rfl⟩, HB.out⟩
      · have o5 : ((op : Int) == 5) = false := by rw [beq_eq_false_iff_ne]; omega
        go_wp2_with fail
        go_ret
        exact ⟨⟨_, rfl⟩, HB.out⟩
end Go.Proofs.YtlbkhhbbkedhkaaGreatDoor
namespace Go.Proofs.YtlbkhhbbkedhkaaGreatDoor
open Go.RowKit
set_option linter.unusedVariables false
attribute [local go_sem ↓] exec_load_ex

set_option maxRecDepth 100000 in
set_option maxHeartbeats 8000000 in
theorem nodeserror_any (A B : Option Addr) (c n m d : Nat) (ats : Nat → Att) (cs : Nat → Cl) (hm : m ≤ 100000) (e : Ex) : ∀ (a : EA) (w : World), SchIn (lo w.heap.size) w A n ats → ClsAt w w.heap.size B m cs → ExAt w w.heap.size e a → e.all fewQ →
    Calls Tryz.prog 60 #[.agg #[.slice A n c], .slice B m d, .agg (e.cells a)] w (AnyI w) := by
  induction e with
  | bot => exact fun a w _ _ h => h.elim
  | mk op name nw ws lw hg na xs ih =>
    intro a w hs h hx hf
    have hnw : nw ≤ 12 := hf.1.1
    have hna : na ≤ 300 := hf.1.2
    have HND : Hid (∀ W, Below w.heap.size w W → Calls Tryz.prog 90 #[.agg #[.slice A n c], .slice B m d, .agg ((Ex.mk op name nw ws lw hg na xs).cells a)] W (AnyI W)) := Lib.hid fun W hb =>
      nodeerror_any A B c n m d ats cs op name nw ws lw hg na xs a W (hs.keep (fun i o hi => hb.cell (p := ⟨i, o, none⟩) hi) (fun i hi => Nat.lt_of_lt_of_le hi hb.size)) (h.below hb hb.size) hm (hx.below hb hb.size) hnw
    obtain ⟨_, _, hst, P, hcc, hee⟩ := hx
    have HIH : Hid (∀ k, k < na → ∀ W, Below w.heap.size w W → Calls Tryz.prog 60 #[.agg #[.slice A n c], .slice B m d, .agg ((xs k).cells (P k))] W (AnyI W)) := Lib.hid fun k hk W hb =>
      ih k (P k) W (hs.keep (fun i o hi => hb.cell (p := ⟨i, o, none⟩) hi) (fun i hi => Nat.lt_of_lt_of_le hi hb.size)) (h.below hb hb.size) ((hee k hk).below hb hb.size) (hf.2 k hk)
    obtain ⟨Aw, cw, Aa, ca⟩ := a
    have HX : Hid (Cells w w.heap.size Aa (na * 6) fun j => (xs (j / 6)).cell (P (j / 6)) (j % 6)) := Lib.hid hcc
    have HXI := Lib.hid ex_info
    clear hs h hst ih hcc hee hf
    unfold Ex.cells Ex.row at HND ⊢
    simp only at HND ⊢
    obtain ⟨G, hG⟩ : ∃ G, w.heap.size = G := ⟨_, rfl⟩
    have HGE := Lib.hid hG
    go_enter Tryz.func60, Tryz.ntmps60
    go_upto_region 1 with (fail)
    have HB : Hid (Below w.heap.size w ((w.alloc (.cells #[.slice A n c] 56)).alloc (.cells #[.int .i64 op, .string name, .slice Aw nw cw, .int .i64 lw, .int .i64 hg, .slice Aa na ca] 43))) := Lib.hid (below_two _ _ _)
    have HE := Lib.hid ((Has.new w #[.slice A n c] 56).alloc (.cells #[.int .i64 op, .string name, .slice Aw nw cw, .int .i64 lw, .int .i64 hg, .slice Aa na ca] 43))
    have HF := Lib.hid (Has.new' (w.alloc (.cells #[.slice A n c] 56)) (w.heap.size + 1) #[.int .i64 op, .string name, .slice Aw nw cw, .int .i64 lw, .int .i64 hg, .slice Aa na ca] 43 (by simp))
    obtain ⟨W, hW⟩ : ∃ W, (w.alloc (.cells #[.slice A n c] 56)).alloc (.cells #[.int .i64 op, .string name, .slice Aw nw cw, .int .i64 lw, .int .i64 hg, .slice Aa na ca] 43) = W := ⟨_, rfl⟩
    rw [hW] at HB HE HF ⊢
    rw [hG] at HE HF
    try rw [hG]
    clear hW hG
    have hGw : w.heap.size = G := HGE.out
    obtain ⟨f0, f1, f2⟩ := HF.out.rules
    obtain ⟨e0, e1, e2⟩ := HE.out.rules
    go_wp2_with (refine wpList_load_has ?_ 43 (.tmp 5) ?_ (G + 1) ?_ _ _ _ HF.out Tryz.underlying43 ?_ HXI.out ?_; rfl; rfl; rfl; rfl)
    refine (HND.out _ HB.out).mono ?_
    rintro r w1 ⟨⟨v, rfl⟩, hb⟩
    replace HE := Lib.hid (HE.out.below hb e2)
    replace HF := Lib.hid (HF.out.below hb f2)
    replace HB := Lib.hid (HB.out.trans (hb.mono HB.out.size))
    clear hb e0 e1 e2 f0 f1 f2 HND
    by_cases hv : v = 0
    · have q1 : (v != 0) = false := by rw [hv]; rfl
      have q2 : (v == 0) = true := by rw [hv]; rfl
      clear hv
      go_wp2_with fail
      go_loopw [8] (fun i wr => ∃ k : Nat, k ≤ na ∧ i = .int .i64 k ∧ Hid (Has wr G #[.slice A n c] 56) ∧ Hid (Has wr (G + 1) #[.int .i64 op, .string name, .slice Aw nw cw, .int .i64 lw, .int .i64 hg, .slice Aa na ca] 43) ∧ Hid (Below w.heap.size w wr)) (fun i _ => na - (intOf i).toNat)
      case atStart => exact ⟨0, Nat.zero_le _, rfl, HE, HF, HB⟩
      case round =>
        clear HE HF HB
        obtain ⟨k, hk, rfl, HE, HF, HB⟩ := hrel
        obtain ⟨f0, f1, f2⟩ := HF.out.rules
        obtain ⟨e0, e1, e2⟩ := HE.out.rules
        by_cases hlt : k < na
        · obtain ⟨bb, o, hAa, hbb, hcc⟩ := part_at (f := fun i j => (xs i).cell (P i) j) HX.out hlt (by omega)
          subst hAa
          have hk0 : (0 : Int) ≤ k := by omega
          have hk1 : (k : Int) < na := by omega
          have hnum : IntKind.i64.wrap ((k : Int) + 1) = ((k + 1 : Nat) : Int) := by rw [IntKind.wrap_i64]; omega
          obtain ⟨Y, hY⟩ : ∃ z, (xs k).cells (P k) = z := ⟨_, rfl⟩
          have HC7 : Hid (∀ V, Below w.heap.size w V → Calls Tryz.prog 60 #[.agg #[.slice A n c], .slice B m d, .agg Y] V (AnyI V)) := Lib.hid fun V hb => by rw [← hY]; exact HIH.out k hlt V hb
          have HP7 : Hid (∀ V, Below w.heap.size w V → ExPtr V (.pointer (some ⟨bb, o + k * 6, none⟩)) Y) := Lib.hid fun V hb => ⟨bb, _, rfl, by rw [← hY]; exact Ex.range fun j hj => by rw [hb.cell (p := ⟨bb, o + k * 6 + j, none⟩) hbb]; exact hcc j hj, by rw [← hY]; exact Ex.cells_size _ _⟩
          clear hY hcc
          have HSS : Hid (∀ V, Below wr.heap.size wr V → V.cell? ⟨G, 0, none⟩ = some (.slice A n c) ∧ V.cell? ⟨G + 1, 5, none⟩ = some (.slice (some ⟨bb, o, none⟩) na ca) ∧ (∃ c, ExPtr V (.pointer (some ⟨bb, o + k * 6, none⟩)) c) ∧ exCells V (.pointer (some ⟨bb, o + k * 6, none⟩)) = Y) := Lib.hid fun V hb =>
            have hw := HB.out.trans (hb.mono HB.out.size)
            ⟨by rw [(HE.out.below hb e2).cell]; rfl, by rw [(HF.out.below hb f2).cell]; rfl, ⟨_, HP7.out V hw⟩, (HP7.out V hw).cells⟩
          have HBB : Hid (Below wr.heap.size wr wr.drew) := Lib.hid (Below.drew (Below.refl _ _))
          go_upto_region 7 with (fail)
          go_region_held3 (fun V => V.cell? ⟨G, 0, none⟩ = some (.slice A n c) ∧ V.cell? ⟨G + 1, 5, none⟩ = some (.slice (some ⟨bb, o, none⟩) na ca) ∧ (∃ c, ExPtr V (.pointer (some ⟨bb, o + k * 6, none⟩)) c) ∧ exCells V (.pointer (some ⟨bb, o + k * 6, none⟩)) = Y) (exact HSS.out _ HBB.out) (first
            | (go_at_call 60; refine (HC7.out _ (HB.out.trans (HBB.out.mono HB.out.size))).mono ?_; rintro r w7 ⟨⟨v7, rfl⟩, hb7⟩; replace HBB : Hid (Below wr.heap.size wr w7) := Lib.hid (HBB.out.trans (hb7.mono HBB.out.size)); clear hb7))
          have HE7 := Lib.hid (HE.out.below HBB.out e2)
          have HF7 := Lib.hid (HF.out.below HBB.out f2)
          have HB7 := Lib.hid (HB.out.trans (HBB.out.mono HB.out.size))
          clear HE HF HB HSS HBB HC7 HP7 e0 e1 e2 f0 f1 f2
          by_cases hv7 : v7 = 0
          · have p1 : (v7 != 0) = false := by rw [hv7]; rfl
            have p2 : (v7 == 0) = true := by rw [hv7]; rfl
            clear hv7
            go_wp2_with fail
            go_roundw
            case rel => exact ⟨k + 1, by omega, by go_num, HE7, HF7, HB7⟩
            case measure => simp [intOf]; omega
          · have p2 : (v7 == 0) = false := by rw [beq_eq_false_iff_ne]; exact hv7
            have p1 : (v7 != 0) = true := by rw [bne, p2]; rfl
            go_wp2_with fail
            go_ret
            exact ⟨⟨_, rfl⟩, HB7.out⟩
        · have hkn : k = na := by omega
          subst hkn
          have hdd : decide ((k : Int) < k) = false := by rw [decide_eq_false_iff_not]; omega
          go_wp2_with fail
          go_ret
          exact ⟨⟨_, rfl⟩, HB.out⟩
    · have q2 : (v == 0) = false := by rw [beq_eq_false_iff_ne]; exact hv
      have q1 : (v != 0) = true := by rw [bne, q2]; rfl
      go_wp2_with fail
      go_ret
      exact ⟨⟨_, rfl⟩, HB.out⟩
end Go.Proofs.YtlbkhhbbkedhkaaGreatDoor
namespace Go.Proofs.YtlbkhhbbkedhkaaGreatDoor
open Go.RowKit
set_option linter.unusedVariables false
attribute [local go_sem ↓] exec_load_ex

theorem wb_few {b : Wb} (h : b.few) : b.e.all fewQ ∧ fewL b.n b.us := by
  cases b with
  | bot => exact h.elim
  | mk name e n us => exact ⟨h.1, h.2⟩
theorem wb_cells {w : World} {bb o : Nat} {b : Wb} {a : WA} (h : ∀ j, j < 8 → w.cell? ⟨bb, o + j, none⟩ = some (b.cell a j)) : (∀ j, j < 6 → w.cell? ⟨bb, o + 1 + j, none⟩ = some (b.e.cell a.ea j)) ∧ w.cell? ⟨bb, o + 7, none⟩ = some (.slice a.A b.n a.c) := by
  refine ⟨fun j hj => ?_, ?_⟩
  · have := h (1 + j) (by omega)
    rw [← Nat.add_assoc] at this
    rw [this]
    cases b
    all_goals
      match j, hj with
      | 0, _ | 1, _ | 2, _ | 3, _ | 4, _ | 5, _ => rfl
      | j + 6, hj => omega
  · rw [h 7 (by omega)]
    cases b <;> rfl

set_option maxRecDepth 100000 in
set_option maxHeartbeats 4000000 in
theorem backserror_any (A B : Option Addr) (c n m d : Nat) (ats : Nat → Att) (cs : Nat → Cl) (hm : m ≤ 100000) (u : Wb) : ∀ (D : Option Addr) (q : Nat) (w : World), SchIn (lo w.heap.size) w A n ats → ClsAt w w.heap.size B m cs → WbsAt w w.heap.size D u.n u.us → fewL u.n u.us →
    Calls Tryz.prog 61 #[.agg #[.slice A n c], .slice B m d, .slice D u.n q] w (AnyI w) := by
  refine Wb.recL (M := fun u => ∀ (D : Option Addr) (q : Nat) (w : World), SchIn (lo w.heap.size) w A n ats → ClsAt w w.heap.size B m cs → WbsAt w w.heap.size D u.n u.us → fewL u.n u.us → Calls Tryz.prog 61 #[.agg #[.slice A n c], .slice B m d, .slice D u.n q] w (AnyI w)) ?_ (fun h => h) u
  intro name e nn us ih D q w hs h hx hf
  obtain ⟨hnb, P, hcc, hee⟩ := hx
  have hnn : nn ≤ 40 := hf.1
  have HND : Hid (∀ k, k < nn → ∀ W, Below w.heap.size w W → Calls Tryz.prog 60 #[.agg #[.slice A n c], .slice B m d, .agg ((us k).e.cells (P k).ea)] W (AnyI W) ∧ Calls Tryz.prog 61 #[.agg #[.slice A n c], .slice B m d, .slice (P k).A (us k).n (P k).c] W (AnyI W)) := Lib.hid fun k hk W hb => by
    have h1 := (hee k hk).parts
    have h2 := wb_few (hf.2 k hk)
    have s1 := hs.keep (T := lo W.heap.size) (fun i o hi => hb.cell (p := ⟨i, o, none⟩) hi) (fun i hi => Nat.lt_of_lt_of_le hi hb.size)
    have s2 := h.below hb hb.size
    exact ⟨nodeserror_any A B c n m d ats cs hm _ _ W s1 s2 (h1.1.below hb hb.size) h2.1, ih k hk _ _ W s1 s2 (h1.2.below hb hb.size) h2.2⟩
  have HX : Hid (Cells w w.heap.size D (nn * 8) fun j => (us (j / 8)).cell (P (j / 8)) (j % 8)) := Lib.hid hcc
  clear hs h ih hcc hee hf
  show Calls _ _ #[_, _, .slice D nn q] _ _
  obtain ⟨G, hG⟩ : ∃ G, w.heap.size = G := ⟨_, rfl⟩
  have HGE := Lib.hid hG
  go_enter Tryz.func61, Tryz.ntmps61
  go_upto_region 1 with (fail)
  have HB : Hid (Below w.heap.size w (w.alloc (.cells #[.slice A n c] 56))) := Lib.hid ((Below.refl _ _).alloc (Nat.le_refl _) _)
  have HE := Lib.hid (Has.new w #[.slice A n c] 56)
  obtain ⟨W, hW⟩ : ∃ W, w.alloc (.cells #[.slice A n c] 56) = W := ⟨_, rfl⟩
  rw [hW] at HB HE ⊢
  rw [hG] at HE
  try rw [hG]
  clear hW hG
  have hGw : w.heap.size = G := HGE.out
  go_wp2_with fail
  go_loopw [7] (fun i wr => ∃ k : Nat, k ≤ nn ∧ i = .int .i64 k ∧ Hid (Has wr G #[.slice A n c] 56) ∧ Hid (Below w.heap.size w wr)) (fun i _ => nn - (intOf i).toNat)
  case atStart => exact ⟨0, Nat.zero_le _, rfl, HE, HB⟩
  case round =>
    clear HE HB
    obtain ⟨k, hk, rfl, HE, HB⟩ := hrel
    obtain ⟨e0, e1, e2⟩ := HE.out.rules
    by_cases hlt : k < nn
    · obtain ⟨bb, o, hAa, hbb, hcc⟩ := part_at (f := fun i j => (us i).cell (P i) j) HX.out hlt (by omega)
      subst hAa
      have hk0 : (0 : Int) ≤ k := by omega
      have hk1 : (k : Int) < nn := by omega
      have hnum : IntKind.i64.wrap ((k : Int) + 1) = ((k + 1 : Nat) : Int) := by rw [IntKind.wrap_i64]; omega
      obtain ⟨hce, hcu⟩ := wb_cells (b := us k) (a := P k) hcc
      have HC7 := Lib.hid (HND.out k hlt)
      obtain ⟨Y, hY⟩ : ∃ z, (us k).e.cells (P k).ea = z := ⟨_, rfl⟩
      obtain ⟨A2, hA2⟩ : ∃ z, (P k).A = z := ⟨_, rfl⟩
      obtain ⟨n2, hn2⟩ : ∃ z, (us k).n = z := ⟨_, rfl⟩
      obtain ⟨c2, hc2⟩ : ∃ z, (P k).c = z := ⟨_, rfl⟩
      rw [hY, hA2, hn2, hc2] at HC7
      rw [hA2, hn2, hc2] at hcu
      have HP7 : Hid (∀ V, Below w.heap.size w V → ExPtr V (.pointer (some ⟨bb, o + k * 8 + 1, none⟩)) Y ∧ V.cell? ⟨bb, o + k * 8 + 7, none⟩ = some (.slice A2 n2 c2)) := Lib.hid fun V hb => ⟨⟨bb, _, rfl, by rw [← hY]; exact Ex.range fun j hj => by rw [hb.cell (p := ⟨bb, o + k * 8 + 1 + j, none⟩) hbb]; exact hce j hj, by rw [← hY]; exact Ex.cells_size _ _⟩, by rw [hb.cell (p := ⟨bb, o + k * 8 + 7, none⟩) hbb]; exact hcu⟩
      clear hY hA2 hn2 hc2 hcc hce hcu
      have HSS : Hid (∀ V, Below wr.heap.size wr V → V.cell? ⟨G, 0, none⟩ = some (.slice A n c) ∧ (∃ c, ExPtr V (.pointer (some ⟨bb, o + k * 8 + 1, none⟩)) c) ∧ exCells V (.pointer (some ⟨bb, o + k * 8 + 1, none⟩)) = Y) := Lib.hid fun V hb =>
        have hw := HB.out.trans (hb.mono HB.out.size)
        ⟨by rw [(HE.out.below hb e2).cell]; rfl, ⟨_, (HP7.out V hw).1⟩, (HP7.out V hw).1.cells⟩
      have HBB : Hid (Below wr.heap.size wr wr.drew) := Lib.hid (Below.drew (Below.refl _ _))
      go_upto_region 4 with (fail)
      go_region_held3 (fun V => V.cell? ⟨G, 0, none⟩ = some (.slice A n c) ∧ (∃ c, ExPtr V (.pointer (some ⟨bb, o + k * 8 + 1, none⟩)) c) ∧ exCells V (.pointer (some ⟨bb, o + k * 8 + 1, none⟩)) = Y) (exact HSS.out _ HBB.out) (first
        | (go_at_call 60; refine (HC7.out _ (HB.out.trans (HBB.out.mono HB.out.size))).1.mono ?_; rintro r w7 ⟨⟨v7, rfl⟩, hb7⟩; replace HBB : Hid (Below wr.heap.size wr w7) := Lib.hid (HBB.out.trans (hb7.mono HBB.out.size)); clear hb7))
      have HE7 := Lib.hid (HE.out.below HBB.out e2)
      have HB7 := Lib.hid (HB.out.trans (HBB.out.mono HB.out.size))
      clear HE HB HSS HBB e0 e1 e2
      obtain ⟨e0, e1, e2⟩ := HE7.out.rules
      by_cases hv7 : v7 = 0
      · have p1 : (v7 != 0) = false := by rw [hv7]; rfl
        have p2 : (v7 == 0) = true := by rw [hv7]; rfl
        clear hv7
        have HSS : Hid (∀ V, Below w7.heap.size w7 V → V.cell? ⟨G, 0, none⟩ = some (.slice A n c) ∧ V.cell? ⟨bb, o + k * 8 + 7, none⟩ = some (.slice A2 n2 c2)) := Lib.hid fun V hb =>
          have hw := HB7.out.trans (hb.mono HB7.out.size)
          ⟨by rw [(HE7.out.below hb e2).cell]; rfl, (HP7.out V hw).2⟩
        have HBB : Hid (Below w7.heap.size w7 w7.drew) := Lib.hid (Below.drew (Below.refl _ _))
        go_upto_region 7 with (fail)
        go_region_held3 (fun V => V.cell? ⟨G, 0, none⟩ = some (.slice A n c) ∧ V.cell? ⟨bb, o + k * 8 + 7, none⟩ = some (.slice A2 n2 c2)) (exact HSS.out _ HBB.out) (first
          | (go_at_call 61; refine (HC7.out _ (HB7.out.trans (HBB.out.mono HB7.out.size))).2.mono ?_; rintro r w8 ⟨⟨v8, rfl⟩, hb8⟩; replace HBB : Hid (Below w7.heap.size w7 w8) := Lib.hid (HBB.out.trans (hb8.mono HBB.out.size)); clear hb8))
        have HE8 := Lib.hid (HE7.out.below HBB.out e2)
        have HB8 := Lib.hid (HB7.out.trans (HBB.out.mono HB7.out.size))
        clear HE7 HB7 HSS HBB HC7 HP7 e0 e1 e2
        by_cases hv8 : v8 = 0
        · have p3 : (v8 != 0) = false := by rw [hv8]; rfl
          have p4 : (v8 == 0) = true := by rw [hv8]; rfl
          clear hv8
          go_wp2_with fail
          go_roundw
          case rel => exact ⟨k + 1, by omega, by go_num, HE8, HB8⟩
          case measure => simp [intOf]; omega
        · have p4 : (v8 == 0) = false := by rw [beq_eq_false_iff_ne]; exact hv8
          have p3 : (v8 != 0) = true := by rw [bne, p4]; rfl
          go_wp2_with fail
          go_ret
          exact ⟨⟨_, rfl⟩, HB8.out⟩
      · have p2 : (v7 == 0) = false := by rw [beq_eq_false_iff_ne]; exact hv7
        have p1 : (v7 != 0) = true := by rw [bne, p2]; rfl
        go_wp2_with fail
        go_ret
        exact ⟨⟨_, rfl⟩, HB7.out⟩
    · have hkn : k = nn := by omega
      subst hkn
      have hdd : decide ((k : Int) < k) = false := by rw [decide_eq_false_iff_not]; omega
      go_wp2_with fail
      go_ret
      exact ⟨⟨_, rfl⟩, HB.out⟩
end Go.Proofs.YtlbkhhbbkedhkaaGreatDoor
