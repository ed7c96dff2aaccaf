/- Reference 5: attribute, Schema. Reference 5: Find; reference 9: Clauses. -/
import Derived.Test.YtlbkhhbbkedhkaaGreatDoorMa25
namespace Go.Proofs.YtlbkhhbbkedhkaaGreatDoor
open Go.RowKit
set_option linter.unusedVariables false

set_option maxRecDepth 100000 in
set_option maxHeartbeats 2000000 in
theorem attribute_any (a : Att) (q : Option Addr × Nat) (w : World) (hok : a.ok) (hs : Strs w w.heap.size q.1 a.nw a.ws) :
    Calls Tryz.prog 86 #[.agg (a.cells q)] w (AnyI w) := by
  obtain ⟨name, kd, nw, ws, lo, hi⟩ := a
  obtain ⟨Aw, cw⟩ := q
  obtain ⟨_, ⟨hnw, hnm, hds⟩, hk⟩ := hok
  simp only at hnw hnm hds hk hs
  have HNM : Hid (∀ W, Below w.heap.size w W → Calls Tryz.prog 46 #[.slice Aw nw cw] W (IffPost (namesP nw ws) W)) := Lib.hid fun W hb => rnames_any Aw nw cw ws W (by unfold big; omega) ((Cells.below hs hb).mono hb.size)
  have HDS : Hid (∀ W, Below w.heap.size w W → Calls Tryz.prog 47 #[.slice Aw nw cw] W (IffPost (distP nw ws) W)) := Lib.hid fun W hb => rdistinct_any Aw nw cw ws W (by unfold big; omega) ((Cells.below hs hb).mono hb.size)
  have HNP := Lib.hid hnm
  have HDP := Lib.hid hds
  clear hnm hds hs
  unfold Att.cells
  simp only
  go_enter Tryz.func86, Tryz.ntmps86
  go_upto_region 1 with (fail)
  have HB : Hid (Below w.heap.size w (w.alloc (.cells #[.string name, .int .i64 kd, .slice Aw nw cw, .int .i64 lo, .int .i64 hi] 80))) := Lib.hid ((Below.refl _ _).alloc (Nat.le_refl _) _)
  have HF := Lib.hid (Has.new w #[.string name, .int .i64 kd, .slice Aw nw cw, .int .i64 lo, .int .i64 hi] 80)
  obtain ⟨W, hW⟩ : ∃ W, w.alloc (.cells #[.string name, .int .i64 kd, .slice Aw nw cw, .int .i64 lo, .int .i64 hi] 80) = W := ⟨_, rfl⟩
  obtain ⟨G, hG⟩ : ∃ G, w.heap.size = G := ⟨_, rfl⟩
  have HGE := Lib.hid hG
  rw [hW] at HB HF ⊢
  rw [hG] at HF
  try rw [hG]
  clear hW hG
  obtain ⟨f0, f1, f2⟩ := HF.out.rules
  rcases hk with ⟨rfl, hn1⟩ | ⟨rfl, h1, h2, h3⟩ | rfl
  · by_cases hl : lo = 0
    · by_cases hh : hi = 0
      · subst hl hh
        have hn0 : ((nw : Int) == 0) = false := by rw [beq_eq_false_iff_ne]; omega
        have hn2 : (nw : Int) ≤ 12 := by omega
        go_wp2_with fail
        refine (HNM.out _ HB.out).mono ?_
        rintro r w2 ⟨b, rfl, hbi, hb2⟩
        obtain rfl : b = true := hbi.2 HNP.out
        replace HF := Lib.hid (HF.out.below hb2 f2)
        replace HB := Lib.hid (HB.out.trans (hb2.mono HB.out.size))
        clear f0 f1 f2 hb2 hbi
        obtain ⟨f0, f1, f2⟩ := HF.out.rules
        go_wp2_with fail
        refine (HDS.out _ HB.out).mono ?_
        rintro r w3 ⟨b, rfl, hbi, hb2⟩
        obtain rfl : b = true := hbi.2 HDP.out
        replace HB := Lib.hid (HB.out.trans (hb2.mono HB.out.size))
        go_wp2_with fail
        go_ret
        exact ⟨⟨_, rfl⟩, HB.out⟩
      · subst hl
        have hh' : (hi != 0) = true := by simp [bne, hh]
        have hh2 : (hi == 0) = false := by simp [hh]
        go_wp2_with fail
        go_ret
        exact ⟨⟨_, rfl⟩, HB.out⟩
    · have hh' : (lo != 0) = true := by simp [bne, hl]
      have hh2 : (lo == 0) = false := by simp [hl]
      go_wp2_with fail
      go_ret
      exact ⟨⟨_, rfl⟩, HB.out⟩
  · by_cases hn : nw = 0
    · subst hn
      have hd1 : decide (-1000000000 ≤ lo ∧ lo ≤ 1000000000) = true := by rw [decide_eq_true_iff]; omega
      have hd2 : decide (-1000000000 ≤ hi ∧ hi ≤ 1000000000) = true := by rw [decide_eq_true_iff]; omega
      have hgt : ¬ hi < lo := by omega
      have hg1 : lo ≤ 1000000000 := by omega
      have hg2 : -1000000000 ≤ hi := by omega
      go_wp2_with (refine (far_any _ _).mono ?_; rintro r w2 ⟨rfl, rfl⟩)
      go_ret
      exact ⟨⟨_, rfl⟩, HB.out⟩
    · have hn1 : 0 < (nw : Int) := by omega
      go_wp2_with fail
      go_ret
      exact ⟨⟨_, rfl⟩, HB.out⟩
  · by_cases hn : nw = 0
    · subst hn
      by_cases hl : lo = 0
      · by_cases hh : hi = 0
        · subst hl hh
          go_wp2_with fail
          go_ret
          exact ⟨⟨_, rfl⟩, HB.out⟩
        · subst hl
          have hh' : (hi != 0) = true := by simp [bne, hh]
          have hh2 : (hi == 0) = false := by simp [hh]
          go_wp2_with fail
          go_ret
          exact ⟨⟨_, rfl⟩, HB.out⟩
      · have hh' : (lo != 0) = true := by simp [bne, hl]
        have hh2 : (lo == 0) = false := by simp [hl]
        go_wp2_with fail
        go_ret
        exact ⟨⟨_, rfl⟩, HB.out⟩
    · have hn1 : 0 < (nw : Int) := by omega
      go_wp2_with fail
      go_ret
      exact ⟨⟨_, rfl⟩, HB.out⟩

set_option maxRecDepth 100000 in
set_option maxHeartbeats 2000000 in
theorem schema_any (A : Option Addr) (c n : Nat) (ats : Nat → Att) (w : World) (h : SchIn (lo w.heap.size) w A n ats) :
    Calls Tryz.prog 56 #[.agg #[.slice A n c]] w (AnyI w) := by
  have hn := h.1
  have HX := Lib.hid h
  have HAI := Lib.hid at_info
  have HAT : Hid (∀ (a : Att) (q : Option Addr × Nat) (W : World), a.ok → Strs W W.heap.size q.1 a.nw a.ws → Calls Tryz.prog 86 #[.agg (a.cells q)] W (AnyI W)) := Lib.hid fun a q W h1 h2 => attribute_any a q W h1 h2
  clear h
  obtain ⟨G, hG⟩ : ∃ G, w.heap.size = G := ⟨_, rfl⟩
  have HGE := Lib.hid hG
  go_enter Tryz.func56, Tryz.ntmps56
  go_upto_region 1 with (fail)
  have HB : Hid (Below w.heap.size w (w.alloc (.cells #[.slice A n c] 56))) := Lib.hid ((Below.refl _ _).alloc (Nat.le_refl _) _)
  have HE := Lib.hid (Has.new w #[.slice A n c] 56)
  obtain ⟨W, hW⟩ : ∃ W, w.alloc (.cells #[.slice A n c] 56) = W := ⟨_, rfl⟩
  rw [hW] at HB HE ⊢
  rw [hG] at HE
  try rw [hG]
  clear hW hG
  have hGw : w.heap.size = G := HGE.out
  have hn0 : ((n : Int) == 0) = false := by rw [beq_eq_false_iff_ne]; omega
  have hn6 : (n : Int) ≤ 6 := by omega
  obtain ⟨e0, e1, e2⟩ := HE.out.rules
  go_wp2_with fail
  clear e0 e1 e2
  go_loopw [3] (fun i wr => ∃ k : Nat, k ≤ n ∧ i = .int .i64 k ∧ Hid (Has wr G #[.slice A n c] 56) ∧ Hid (Below w.heap.size w wr)) (fun i _ => n - (intOf i).toNat)
  case atStart => exact ⟨0, Nat.zero_le _, rfl, HE, HB⟩
  case round =>
    clear HE HB
    obtain ⟨k, hk, rfl, HE, HB⟩ := hrel
    obtain ⟨e0, e1, e2⟩ := HE.out.rules
    by_cases hlt : k < n
    · obtain ⟨bb, o, q, hAa, hbb, hrg, hst, hqc, hok⟩ := HX.out.get hlt
      subst hAa
      obtain ⟨qa, qc⟩ := q
      have HOK := Lib.hid hok
      have HNB : Hid (nameB (ats k).name = true) := Lib.hid hok.1
      have HST : Hid (∀ V, Below w.heap.size w V → Strs V V.heap.size qa (ats k).nw (ats k).ws) := Lib.hid fun V hb => (Cells.below (hst.to fun _ h => h) hb).mono hb.size
      have HA7 : Hid (∀ V, Below w.heap.size w V → Calls Tryz.prog 86 #[.agg #[.string (ats k).name, .int .i64 (ats k).kind, .slice qa (ats k).nw qc, .int .i64 (ats k).lo, .int .i64 (ats k).hi]] V (AnyI V)) := Lib.hid fun V hb => HAT.out (ats k) (qa, qc) V HOK.out (HST.out V hb)
      obtain ⟨nm, hnm⟩ : ∃ z, (ats k).name = z := ⟨_, rfl⟩
      obtain ⟨kd, hkd⟩ : ∃ z, (ats k).kind = z := ⟨_, rfl⟩
      obtain ⟨nw, hnw⟩ : ∃ z, (ats k).nw = z := ⟨_, rfl⟩
      obtain ⟨lw, hlw⟩ : ∃ z, (ats k).lo = z := ⟨_, rfl⟩
      obtain ⟨hi, hhi⟩ : ∃ z, (ats k).hi = z := ⟨_, rfl⟩
      have hrg2 : wr.rangeAt bb (o + k * 5) [.string nm, .int .i64 kd, .slice qa nw qc, .int .i64 lw, .int .i64 hi] := fun j v hv => by
        rw [HB.out.cell (p := ⟨bb, o + k * 5 + j, none⟩) hbb]
        exact hrg j v (by rw [← hv]; unfold Att.cells; rw [hnm, hkd, hnw, hlw, hhi])
      have HRG := Lib.hid hrg2
      have HNME : Hid (∀ j, j < n → ∀ V, Below w.heap.size w V → ∃ s : ByteArray, V.cell? ⟨bb, o + j * 5, none⟩ = some (.string s)) := Lib.hid fun j hj V hb => by
        obtain ⟨b2, o2, q2, e2, _, h2, _⟩ := HX.out.get hj
        injection e2 with e2
        injection e2 with e2 e3
        subst e2 e3
        exact ⟨_, by rw [hb.cell (p := ⟨bb, o + j * 5, none⟩) hbb]; exact h2 0 _ rfl⟩
      rw [hnm, hkd, hnw, hlw, hhi] at HA7
      rw [hnm] at HNB
      clear hrg2 hrg hst hok HST HOK hnm hkd hnw hlw hhi
      have hk0 : (0 : Int) ≤ k := by omega
      have hk1 : (k : Int) < n := by omega
      have hnum : IntKind.i64.wrap ((k : Int) + 1) = ((k + 1 : Nat) : Int) := by rw [IntKind.wrap_i64]; omega
      have HZ : Hid (Has (wr.alloc (.cells #[.string { data := #[] }, .int .i64 0, .slice none 0 0, .int .i64 0, .int .i64 0] 80)) wr.heap.size #[.string { data := #[] }, .int .i64 0, .slice none 0 0, .int .i64 0, .int .i64 0] 80) := Lib.hid (Has.new wr _ _)
      go_upto_region 9 with (first
        | (refine wpList_load_mid ?_ 80 (.tmp 25) ?_ bb (o + k * 5) ?_ _ _ HRG.out Tryz.underlying80 ?_ HAI.out ?_; rfl; rfl; rfl; rfl)
        | (refine wpList_store_has ?_ 80 (.tmp 4) (.tmp 26) ?_ wr.heap.size ?_ #[.string nm, .int .i64 kd, .slice qa nw qc, .int .i64 lw, .int .i64 hi] ?_ _ _ HZ.out HAI.out ?_ ?_ ?_; rfl; rfl; rfl; rfl; rfl; rfl; intro w2 hh2 hl2))
      have hbm := below_alloc_leaves hl2
      have hszw := HB.out.size
      replace HE := Lib.hid (HE.out.below hbm e2)
      have HH := Lib.hid hh2
      replace HB : Hid (Below w.heap.size w w2) := Lib.hid (HB.out.trans (hbm.mono hszw))
      obtain ⟨H, hH⟩ : ∃ H, wr.heap.size = H := ⟨_, rfl⟩
      rw [hH] at HH ⊢
      have hGH : G < H := by rw [← hH]; exact e2
      clear hbm hh2 hl2 hH e0 e1 e2 HZ HRG hszw
      obtain ⟨e0, e1, e2⟩ := HE.out.rules
      obtain ⟨f0, f1, f2⟩ := HH.out.rules
      have hnb : nameB nm = true := HNB.out
      go_wp2_with fail
      refine (rname_any nm _).mono ?_
      rintro r w3 ⟨rfl, rfl⟩
      rw [hnb]
      clear hnb
      go_wp2_with fail
      go_loopw [5] (fun j wx => ∃ jj : Nat, jj ≤ k ∧ j = .int .i64 jj ∧ ∃ q, wx = w2.drewN q) (fun j _ => k - (intOf j).toNat)
      case atStart => exact ⟨0, Nat.zero_le _, rfl, 0, rfl⟩
      case round =>
        obtain ⟨jj, hjj, rfl, q, rfl⟩ := hrel
        by_cases hj : jj < k
        · obtain ⟨s, hs⟩ := HNME.out jj (by omega) w2 HB.out
          have hj0 : (0 : Int) ≤ jj := by omega
          have hj1 : (jj : Int) < k := by omega
          have hj2 : (jj : Int) < n := by omega
          have hjn : IntKind.i64.wrap ((jj : Int) + 1) = ((jj + 1 : Nat) : Int) := by rw [IntKind.wrap_i64]; omega
          by_cases he : s = nm
          · have he' := bytes_eq.2 he
            clear he
            go_upto_region 14 with (fail)
            go_quiet (fail)
            go_wp2_with fail
            go_ret
            exact ⟨⟨_, rfl⟩, below_drewN (below_drewN HB.out _) _⟩
          · have he' := bytes_ne he
            go_upto_region 14 with (fail)
            go_quiet (fail)
            go_wp2_with fail
            go_roundw
            case rel => exact ⟨jj + 1, by omega, by go_num, _, rfl⟩
            case measure => simp [intOf]; omega
        · have hjk : jj = k := by omega
          subst hjk
          have hdd : decide ((jj : Int) < jj) = false := by rw [decide_eq_false_iff_not]; omega
          have HHq : Hid (Has (w2.drewN q) H #[.string nm, .int .i64 kd, .slice qa nw qc, .int .i64 lw, .int .i64 hi] 80) := Lib.hid HH.out
          have HEq : Hid (Has (w2.drewN q) G #[.slice (some ⟨bb, o, none⟩) n c] 56) := Lib.hid HE.out
          have HBq := Lib.hid (below_drewN HB.out q)
          obtain ⟨V, hV⟩ : ∃ V, w2.drewN q = V := ⟨_, rfl⟩
          rw [hV] at HHq HEq HBq ⊢
          clear hV e0 e1 e2 f0 f1 f2 HE HH HB
          go_wp2_with (refine wpList_load_has ?_ 80 (.tmp 4) ?_ H ?_ _ _ _ HHq.out Tryz.underlying80 ?_ HAI.out ?_; rfl; rfl; rfl; rfl)
          refine (HA7.out _ HBq.out).mono ?_
          rintro r w4 ⟨⟨v, rfl⟩, hb⟩
          replace HEq := Lib.hid (HEq.out.below hb HEq.out.lt)
          replace HBq := Lib.hid (HBq.out.trans (hb.mono HBq.out.size))
          clear hb
          by_cases hv : v = 0
          · have q1 : (v != 0) = false := by rw [hv]; rfl
            have q2 : (v == 0) = true := by rw [hv]; rfl
            clear hv
            go_wp2_with fail
            go_roundw
            case rel => exact ⟨jj + 1, by omega, by go_num, HEq, HBq⟩
            case measure => simp [intOf]; omega
          · have q2 : (v == 0) = false := by rw [beq_eq_false_iff_ne]; exact hv
            have q1 : (v != 0) = true := by rw [bne, q2]; rfl
            go_wp2_with fail
            go_ret
            exact ⟨⟨_, rfl⟩, HBq.out⟩
    · have hkn : k = n := by omega
      subst hkn
      have hdd : decide ((k : Int) < k) = false := by rw [decide_eq_false_iff_not]; omega
      go_wp2_with fail
      go_ret
      exact ⟨⟨_, rfl⟩, HB.out⟩
end Go.Proofs.YtlbkhhbbkedhkaaGreatDoor
namespace Go.Proofs.YtlbkhhbbkedhkaaGreatDoor
open Go.RowKit
set_option linter.unusedVariables false
attribute [local go_sem ↓] exec_load_ex

set_option maxRecDepth 100000 in
set_option maxHeartbeats 4000000 in
theorem rfind_any (A : Option Addr) (c n : Nat) (cs : Nat → Cl) (s : ByteArray) (w : World) (h : ClsAt w w.heap.size A n cs) (hn : n ≤ 100000) :
    Calls Tryz.prog 58 #[.slice A n c, .string s] w (IxPost n w) := by
  obtain ⟨_, P, hcc, _⟩ := h
  have HX := Lib.hid hcc
  clear hcc
  go_enter Tryz.func58, Tryz.ntmps58
  go_wp2_with fail
  go_loopw [6] (fun i wr => ∃ k : Nat, k ≤ n ∧ i = .int .i64 k ∧ w = wr) (fun i _ => n - (intOf i).toNat)
  case atStart => exact ⟨0, Nat.zero_le _, rfl, rfl⟩
  case round =>
    obtain ⟨k, hk, rfl, rfl⟩ := hrel
    by_cases hlt : k < n
    · obtain ⟨bb, o, hAa, hbb, hcc⟩ := part_at (f := fun i j => (cs i).cell (P i) j) HX.out hlt (by omega)
      subst hAa
      have c1 : w.cell? ⟨bb, o + k * 10 + 1, none⟩ = some (.string (cs k).name) := hcc 1 (by omega)
      have hk0 : (0 : Int) ≤ k := by omega
      have hk1 : (k : Int) < n := by omega
      obtain ⟨nm, hnm⟩ : ∃ z, (cs k).name = z := ⟨_, rfl⟩
      rw [hnm] at c1
      clear hnm hcc
      have hnum : IntKind.i64.wrap ((k : Int) + 1) = ((k + 1 : Nat) : Int) := by rw [IntKind.wrap_i64]; omega
      by_cases he : nm = s
      · have he' := bytes_eq.2 he
        clear he
        go_wp2_with fail
        go_ret2
        exact ⟨⟨k, true, rfl, fun _ => hlt⟩, rfl⟩
      · have he' := bytes_ne he
        go_wp2_with fail
        go_roundw
        case rel => exact ⟨k + 1, by omega, by go_num, trivial⟩
        case measure => simp [intOf]; omega
    · have hkn : k = n := by omega
      subst hkn
      have hdd : decide ((k : Int) < k) = false := by rw [decide_eq_false_iff_not]; omega
      go_wp2_with fail
      go_ret2
      exact ⟨⟨0, false, rfl, fun h => by cases h⟩, rfl⟩

/-- a number and an error -/
def TwoI (w : World) (r : Ending) (w' : World) : Prop := (∃ u v : Int, r = .returned (.tuple #[.int .i64 u, .int .i64 v])) ∧ Below w.heap.size w w'
theorem cl_parts {w : World} {bb o : Nat} {b : Cl} {a : WA} (h : ∀ j, j < 10 → w.cell? ⟨bb, o + j, none⟩ = some (b.cell a j)) : (∀ j, j < 6 → w.cell? ⟨bb, o + 2 + j, none⟩ = some (b.e.cell a.ea j)) ∧ w.cell? ⟨bb, o + 8, none⟩ = some (.slice a.A b.n a.c) ∧ w.cell? ⟨bb, o + 1, none⟩ = some (.string b.name) := by
  refine ⟨fun j hj => ?_, h 8 (by omega), h 1 (by omega)⟩
  have := h (2 + j) (by omega)
  rw [← Nat.add_assoc] at this
  rw [this]
  match j, hj with
  | 0, _ | 1, _ | 2, _ | 3, _ | 4, _ | 5, _ => rfl
  | j + 6, hj => omega

set_option maxRecDepth 100000 in
set_option maxHeartbeats 4000000 in
theorem rcls_any (A B : Option Addr) (c n m d : Nat) (ats : Nat → Att) (cs : Nat → Cl) (w : World) (hm : m ≤ 1000) (hok : ∀ k, k < m → (cs k).ok) (hs : SchIn (lo w.heap.size) w A n ats) (h : ClsAt w w.heap.size B m cs) :
    Calls Tryz.prog 36 #[.agg #[.slice A n c], .slice B m d] w (TwoI w) := by
  have HS : Hid (∀ W, Below w.heap.size w W → SchIn (lo W.heap.size) W A n ats) := Lib.hid fun W hb => hs.keep (fun i o hi => hb.cell (p := ⟨i, o, none⟩) hi) (fun i hi => Nat.lt_of_lt_of_le hi hb.size)
  have HC : Hid (∀ W, Below w.heap.size w W → ClsAt W W.heap.size B m cs) := Lib.hid fun W hb => h.below hb hb.size
  have HOK := Lib.hid hok
  obtain ⟨_, P, hcc, hee⟩ := h
  have HEE : Hid (∀ k, k < m → ∀ W, Below w.heap.size w W → ClAt W W.heap.size (cs k) (P k)) := Lib.hid fun k hk W hb => ((hee k hk)).below hb hb.size
  have HX : Hid (Cells w w.heap.size B (m * 10) fun j => (cs (j / 10)).cell (P (j / 10)) (j % 10)) := Lib.hid hcc
  have hcf : ∀ k, k < m → (cs k).e.all fewQ := fun k hk => (Cl.few (hok k hk)).1
  have HSC : Hid (∀ W, Below w.heap.size w W → Calls Tryz.prog 56 #[.agg #[.slice A n c]] W (AnyI W)) := Lib.hid fun W hb => schema_any A c n ats W (HS.out W hb)
  have HFI : Hid (∀ s W, Below w.heap.size w W → Calls Tryz.prog 58 #[.slice B m d, .string s] W (IxPost m W)) := Lib.hid fun s W hb => rfind_any B d m cs s W (HC.out W hb) (by omega)
  have HIX : Hid (∀ s W, Below w.heap.size w W → Calls Tryz.prog 59 #[.agg #[.slice A n c], .string s] W (fun r w' => (∃ (k : Nat) (v : Bool), r = .returned (.tuple #[.int .i64 k, .bool v]) ∧ (v = true → k < n)) ∧ Below W.heap.size W w')) := Lib.hid fun s W hb => index_any A c n ats s W (HS.out W hb)
  have HCL : Hid (∀ k, k < m → ∀ W, Below w.heap.size w W → Calls Tryz.prog 57 #[.agg ((cs k).cells (P k))] W (IffPost (cs k).ok W)) := Lib.hid fun k hk W hb => rclause_any _ _ W (HEE.out k hk W hb)
  have HNO : Hid (∀ k, k < m → ∀ W, Below w.heap.size w W → Calls Tryz.prog 60 #[.agg #[.slice A n c], .slice B m d, .agg ((cs k).e.cells (P k).ea)] W (AnyI W)) := Lib.hid fun k hk W hb => nodeserror_any A B c n m d ats cs (by omega) _ _ W (HS.out W hb) (HC.out W hb) (HEE.out k hk W hb).1 (hcf k hk)
  have HBE : Hid (∀ k, k < m → ∀ W, Below w.heap.size w W → Calls Tryz.prog 61 #[.agg #[.slice A n c], .slice B m d, .slice (P k).A (cs k).n (P k).c] W (AnyI W)) := Lib.hid fun k hk W hb => backserror_any A B c n m d ats cs (by omega) (.mk (cs k).name (cs k).e (cs k).n (cs k).us) _ _ W (HS.out W hb) (HC.out W hb) (HEE.out k hk W hb).2 (Cl.few (HOK.out k hk)).2
  have HOR : Hid (∀ W, Below w.heap.size w W → Calls Tryz.prog 62 #[.slice B m d] W (OrdP W)) := Lib.hid fun W hb => order_any B d m cs W (HC.out W hb) hm fun k hk => (HOK.out k hk).2.2.1.1
  have HEX : Hid (∀ k, k < m → ∀ W, Below w.heap.size w W → Calls Tryz.prog 63 #[.slice B m d, .agg ((cs k).e.cells (P k).ea)] W (ExpP W)) := Lib.hid fun k hk W hb => expandedE_any B m d cs (by omega) hcf _ _ W (HC.out W hb) (HEE.out k hk W hb).1 (hcf k hk)
  have HBL : Hid (∀ k, k < m → ∀ W, Below w.heap.size w W → Calls Tryz.prog 64 #[.slice B m d, .slice (P k).A (cs k).n (P k).c] W (BolAny W)) := Lib.hid fun k hk W hb => backslarge_any B m d cs (by omega) hcf (.mk (cs k).name (cs k).e (cs k).n (cs k).us) _ _ W (HC.out W hb) (HEE.out k hk W hb).2 (Cl.few (HOK.out k hk)).2
  have HCI := Lib.hid cl_info
  clear hs hcc hee hcf hok HS HC HEE
  obtain ⟨G, hG⟩ : ∃ G, w.heap.size = G := ⟨_, rfl⟩
  have HGE := Lib.hid hG
  go_enter Tryz.func36, Tryz.ntmps36
  go_upto_region 1 with (fail)
  have HB : Hid (Below w.heap.size w (w.alloc (.cells #[.slice A n c] 56))) := Lib.hid ((Below.refl _ _).alloc (Nat.le_refl _) _)
  have HE := Lib.hid (Has.new w #[.slice A n c] 56)
  obtain ⟨W, hW⟩ : ∃ W, w.alloc (.cells #[.slice A n c] 56) = W := ⟨_, rfl⟩
  rw [hW] at HB HE ⊢
  rw [hG] at HE
  try rw [hG]
  clear hW hG
  have hGw : w.heap.size = G := HGE.out
  obtain ⟨e0, e1, e2⟩ := HE.out.rules
  go_wp2_with fail
  refine (HSC.out _ HB.out).mono ?_
  rintro r w1 ⟨⟨v, rfl⟩, hb⟩
  replace HE := Lib.hid (HE.out.below hb e2)
  replace HB := Lib.hid (HB.out.trans (hb.mono HB.out.size))
  clear hb e0 e1 e2 HSC
  by_cases hv : v = 0
  · have q1 : (v != 0) = false := by rw [hv]; rfl
    have q2 : (v == 0) = true := by rw [hv]; rfl
    clear hv
    by_cases hm100 : m ≤ 100
    · have hm1 : (m : Int) ≤ 100 := by omega
      go_wp2_with fail
      go_loopw [7] (fun i wr => ∃ k : Nat, k ≤ m ∧ i = .int .i64 k ∧ Hid (Has wr G #[.slice A n c] 56) ∧ Hid (Below w.heap.size w wr)) (fun i _ => m - (intOf i).toNat)
      case atStart => exact ⟨0, Nat.zero_le _, rfl, HE, HB⟩
      case round =>
        clear HE HB q1 q2
        obtain ⟨k, hk, rfl, HE, HB⟩ := hrel
        by_cases hlt : k < m
        · obtain ⟨bb, o, hAa, hbb, hcc⟩ := part_at (f := fun i j => (cs i).cell (P i) j) HX.out hlt (by omega)
          subst hAa
          have hk0 : (0 : Int) ≤ k := by omega
          have hk1 : (k : Int) < m := by omega
          have hnum : IntKind.i64.wrap ((k : Int) + 1) = ((k + 1 : Nat) : Int) := by rw [IntKind.wrap_i64]; omega
          obtain ⟨hce, hcu, hcn⟩ := cl_parts (b := cs k) (a := P k) hcc
          have HC7 := Lib.hid (HCL.out k hlt)
          have HN7 := Lib.hid (HNO.out k hlt)
          have HB7 := Lib.hid (HBE.out k hlt)
          have HOK7 := Lib.hid (HOK.out k hlt)
          obtain ⟨K, hK⟩ : ∃ z, cs k = z := ⟨_, rfl⟩
          obtain ⟨a, ha⟩ : ∃ z, P k = z := ⟨_, rfl⟩
          rw [hK, ha] at HC7 HN7 HB7
          rw [hK] at HOK7
          rw [hK, ha] at hce hcu
          rw [hK] at hcn
          simp only [hK, ha] at hcc
          obtain ⟨x0, x1, x2, x3, x4, x5, hcs, hxe, hc1⟩ := Cl.cells_ex K a
          have hrg : wr.rangeAt bb (o + k * 10) (K.cells a).toList := Cl.range fun j hj => by
            rw [HB.out.cell (p := ⟨bb, o + k * 10 + j, none⟩) hbb]; exact hcc j hj
          rw [hcs] at hrg HC7
          have HRG := Lib.hid hrg
          obtain ⟨Y, hY⟩ : ∃ z, K.e.cells a.ea = z := ⟨_, rfl⟩
          have HP7 : Hid (∀ V, Below w.heap.size w V → (ExPtr V (.pointer (some ⟨bb, o + k * 10 + 2, none⟩)) Y ∧ V.cell? ⟨bb, o + k * 10 + 8, none⟩ = some (.slice a.A K.n a.c)) ∧ V.cell? ⟨bb, o + k * 10 + 1, none⟩ = some (.string K.name)) := Lib.hid fun V hb => ⟨⟨⟨bb, _, rfl, by rw [← hY]; exact Ex.range fun j hj => by rw [hb.cell (p := ⟨bb, o + k * 10 + 2 + j, none⟩) hbb]; exact hce j hj, by rw [← hY]; exact Ex.cells_size _ _⟩, by rw [hb.cell (p := ⟨bb, o + k * 10 + 8, none⟩) hbb]; exact hcu⟩, by rw [hb.cell (p := ⟨bb, o + k * 10 + 1, none⟩) hbb]; exact hcn⟩
          rw [hY] at HN7
          obtain ⟨kd, hkd⟩ : ∃ z, K.kind = z := ⟨_, rfl⟩
          obtain ⟨nm, hnm⟩ : ∃ z, K.name = z := ⟨_, rfl⟩
          obtain ⟨am, ham⟩ : ∃ z, K.amt = z := ⟨_, rfl⟩
          obtain ⟨n2, hn2⟩ : ∃ z, K.n = z := ⟨_, rfl⟩
          obtain ⟨A2, hA2⟩ : ∃ z, a.A = z := ⟨_, rfl⟩
          obtain ⟨c2, hc2⟩ : ∃ z, a.c = z := ⟨_, rfl⟩
          rw [hkd, hnm, ham, hn2, hA2, hc2] at HRG HC7
          rw [hnm, hn2, hA2, hc2] at HP7
          rw [hn2, hA2, hc2] at HB7
          clear hK ha hcc hce hcu hcn hcs hxe hc1 hrg hY hkd hnm ham hn2 hA2 hc2
          obtain ⟨e0, e1, e2⟩ := HE.out.rules
          go_wp2_with (refine wpList_load_mid ?_ 46 (.tmp 33) ?_ bb (o + k * 10) ?_ _ _ HRG.out Tryz.underlying46 ?_ HCI.out ?_; rfl; rfl; rfl; rfl)
          refine (HC7.out _ HB.out).mono ?_
          rintro r w7 ⟨b7, rfl, hbi, hb7⟩
          obtain rfl : b7 = true := hbi.2 HOK7.out
          replace HE := Lib.hid (HE.out.below hb7 e2)
          replace HB := Lib.hid (HB.out.trans (hb7.mono HB.out.size))
          clear hb7 hbi e0 e1 e2 HRG HC7 HOK7
          have h1 := (HP7.out _ HB.out).2
          go_wp2_with fail
          refine (HFI.out nm _ HB.out).mono ?_
          rintro r w8 ⟨⟨fk, fv, rfl, hfv⟩, rfl⟩
          clear h1 hfv
          by_cases hfk : fk < k
          · have hfk1 : (fk : Int) < k := by omega
            go_wp2_with fail
            go_ret2
            exact ⟨⟨_, _, rfl⟩, HB.out⟩
          · have hfk1 : decide ((fk : Int) < k) = false := by rw [decide_eq_false_iff_not]; omega
            have hfk2 : (k : Int) ≤ fk := by omega
            obtain ⟨e0, e1, e2⟩ := HE.out.rules
            have HSS : Hid (∀ V, Below w7.heap.size w7 V → V.cell? ⟨G, 0, none⟩ = some (.slice A n c) ∧ V.cell? ⟨bb, o + k * 10 + 1, none⟩ = some (.string nm)) := Lib.hid fun V hb =>
              have hw := HB.out.trans (hb.mono HB.out.size)
              ⟨by rw [(HE.out.below hb e2).cell]; rfl, (HP7.out V hw).2⟩
            have HBB : Hid (Below w7.heap.size w7 w7.drew) := Lib.hid (Below.drew (Below.refl _ _))
            go_upto_region 14 with (fail)
            go_region_held3 (fun V => V.cell? ⟨G, 0, none⟩ = some (.slice A n c) ∧ V.cell? ⟨bb, o + k * 10 + 1, none⟩ = some (.string nm)) (exact HSS.out _ HBB.out) (first
              | (go_at_call 59; refine (HIX.out nm _ (HB.out.trans (HBB.out.mono HB.out.size))).mono ?_; rintro r w8 ⟨⟨ik, iv, rfl, hiv⟩, hb8⟩; replace HBB : Hid (Below w7.heap.size w7 w8) := Lib.hid (HBB.out.trans (hb8.mono HBB.out.size)); clear hb8))
            replace HE := Lib.hid (HE.out.below HBB.out e2)
            replace HB := Lib.hid (HB.out.trans (HBB.out.mono HB.out.size))
            clear HSS HBB e0 e1 e2 hiv
            cases iv with
            | true =>
              go_wp2_with fail
              go_ret2
              exact ⟨⟨_, _, rfl⟩, HB.out⟩
            | false =>
              have HSS : Hid (∀ V, Below w8.heap.size w8 V → V.cell? ⟨G, 0, none⟩ = some (.slice A n c) ∧ (∃ c, ExPtr V (.pointer (some ⟨bb, o + k * 10 + 2, none⟩)) c) ∧ exCells V (.pointer (some ⟨bb, o + k * 10 + 2, none⟩)) = Y) := Lib.hid fun V hb =>
                have hw := HB.out.trans (hb.mono HB.out.size)
                ⟨by rw [(HE.out.below hb HE.out.lt).cell]; rfl, ⟨_, (HP7.out V hw).1.1⟩, (HP7.out V hw).1.1.cells⟩
              have HBB : Hid (Below w8.heap.size w8 w8.drew) := Lib.hid (Below.drew (Below.refl _ _))
              go_upto_region 17 with (fail)
              go_region_held3 (fun V => V.cell? ⟨G, 0, none⟩ = some (.slice A n c) ∧ (∃ c, ExPtr V (.pointer (some ⟨bb, o + k * 10 + 2, none⟩)) c) ∧ exCells V (.pointer (some ⟨bb, o + k * 10 + 2, none⟩)) = Y) (exact HSS.out _ HBB.out) (first
                | (go_at_call 60; refine (HN7.out _ (HB.out.trans (HBB.out.mono HB.out.size))).mono ?_; rintro r w9 ⟨⟨v9, rfl⟩, hb9⟩; replace HBB : Hid (Below w8.heap.size w8 w9) := Lib.hid (HBB.out.trans (hb9.mono HBB.out.size)); clear hb9))
              replace HE := Lib.hid (HE.out.below HBB.out HE.out.lt)
              replace HB := Lib.hid (HB.out.trans (HBB.out.mono HB.out.size))
              clear HSS HBB HN7
              by_cases hv9 : v9 = 0
              · have p1 : (v9 != 0) = false := by rw [hv9]; rfl
                have p2 : (v9 == 0) = true := by rw [hv9]; rfl
                clear hv9
                have HSS : Hid (∀ V, Below w9.heap.size w9 V → V.cell? ⟨G, 0, none⟩ = some (.slice A n c) ∧ V.cell? ⟨bb, o + k * 10 + 8, none⟩ = some (.slice A2 n2 c2)) := Lib.hid fun V hb =>
                  have hw := HB.out.trans (hb.mono HB.out.size)
                  ⟨by rw [(HE.out.below hb HE.out.lt).cell]; rfl, (HP7.out V hw).1.2⟩
                have HBB : Hid (Below w9.heap.size w9 w9.drew) := Lib.hid (Below.drew (Below.refl _ _))
                go_upto_region 20 with (fail)
                go_region_held3 (fun V => V.cell? ⟨G, 0, none⟩ = some (.slice A n c) ∧ V.cell? ⟨bb, o + k * 10 + 8, none⟩ = some (.slice A2 n2 c2)) (exact HSS.out _ HBB.out) (first
                  | (go_at_call 61; refine (HB7.out _ (HB.out.trans (HBB.out.mono HB.out.size))).mono ?_; rintro r wa ⟨⟨va, rfl⟩, hb9⟩; replace HBB : Hid (Below w9.heap.size w9 wa) := Lib.hid (HBB.out.trans (hb9.mono HBB.out.size)); clear hb9))
                replace HE := Lib.hid (HE.out.below HBB.out HE.out.lt)
                replace HB := Lib.hid (HB.out.trans (HBB.out.mono HB.out.size))
                clear HSS HBB HB7
                by_cases hva : va = 0
                · have p3 : (va != 0) = false := by rw [hva]; rfl
                  have p4 : (va == 0) = true := by rw [hva]; rfl
                  clear hva
                  go_wp2_with fail
                  go_roundw
                  case rel => exact ⟨k + 1, by omega, by go_num, HE, HB⟩
                  case measure => simp [intOf]; omega
                · have p4 : (va == 0) = false := by rw [beq_eq_false_iff_ne]; exact hva
                  have p3 : (va != 0) = true := by rw [bne, p4]; rfl
                  go_wp2_with fail
                  go_ret2
                  exact ⟨⟨_, _, rfl⟩, HB.out⟩
              · have p2 : (v9 == 0) = false := by rw [beq_eq_false_iff_ne]; exact hv9
                have p1 : (v9 != 0) = true := by rw [bne, p2]; rfl
                go_wp2_with fail
                go_ret2
                exact ⟨⟨_, _, rfl⟩, HB.out⟩
        · have hkn : k = m := by omega
          subst hkn
          have hdd : decide ((k : Int) < k) = false := by rw [decide_eq_false_iff_not]; omega
          clear HE HFI HIX HCL HNO HBE HOK HCI
          go_wp2_with fail
          refine (HOR.out _ HB.out).mono ?_
          rintro r w7 ⟨⟨A7, n7, c7, v7, rfl⟩, hb7⟩
          replace HB := Lib.hid (HB.out.trans (hb7.mono HB.out.size))
          clear hb7 HOR
          by_cases hv7 : v7 = 0
          · have q1 : (v7 != 0) = false := by rw [hv7]; rfl
            have q2 : (v7 == 0) = true := by rw [hv7]; rfl
            clear hv7
            go_wp2_with fail
            go_loopw [16] (fun i wr => ∃ j : Nat, j ≤ k ∧ i = .int .i64 j ∧ Hid (Below w.heap.size w wr)) (fun i _ => k - (intOf i).toNat)
            case atStart => exact ⟨0, Nat.zero_le _, rfl, HB⟩
            case round =>
              clear HB q1 q2
              obtain ⟨j, hj, rfl, HB⟩ := hrel
              by_cases hlt2 : j < k
              · obtain ⟨bb, o, hAa, hbb, hcc⟩ := part_at (f := fun i j => (cs i).cell (P i) j) HX.out hlt2 (by omega)
                subst hAa
                have hk0 : (0 : Int) ≤ j := by omega
                have hk1 : (j : Int) < k := by omega
                have hnum : IntKind.i64.wrap ((j : Int) + 1) = ((j + 1 : Nat) : Int) := by rw [IntKind.wrap_i64]; omega
                obtain ⟨hce, hcu, _⟩ := cl_parts (b := cs j) (a := P j) hcc
                have HX7 := Lib.hid (HEX.out j hlt2)
                have HL7 := Lib.hid (HBL.out j hlt2)
                obtain ⟨Y, hY⟩ : ∃ z, (cs j).e.cells (P j).ea = z := ⟨_, rfl⟩
                obtain ⟨A2, hA2⟩ : ∃ z, (P j).A = z := ⟨_, rfl⟩
                obtain ⟨n2, hn2⟩ : ∃ z, (cs j).n = z := ⟨_, rfl⟩
                obtain ⟨c2, hc2⟩ : ∃ z, (P j).c = z := ⟨_, rfl⟩
                rw [hY] at HX7
                rw [hA2, hn2, hc2] at HL7 hcu
                have HSS : Hid (∀ V, Below w.heap.size w V → (∃ c, ExPtr V (.pointer (some ⟨bb, o + j * 10 + 2, none⟩)) c) ∧ exCells V (.pointer (some ⟨bb, o + j * 10 + 2, none⟩)) = Y ∧ V.cell? ⟨bb, o + j * 10 + 8, none⟩ = some (.slice A2 n2 c2)) := Lib.hid fun V hb => by
                  have hp : ExPtr V (.pointer (some ⟨bb, o + j * 10 + 2, none⟩)) Y := ⟨bb, _, rfl, by rw [← hY]; exact Ex.range fun i hi => by rw [hb.cell (p := ⟨bb, o + j * 10 + 2 + i, none⟩) hbb]; exact hce i hi, by rw [← hY]; exact Ex.cells_size _ _⟩
                  exact ⟨⟨_, hp⟩, hp.cells, by rw [hb.cell (p := ⟨bb, o + j * 10 + 8, none⟩) hbb]; exact hcu⟩
                clear hY hA2 hn2 hc2 hcc hce hcu
                obtain ⟨h1, h2, h3⟩ := HSS.out _ HB.out
                go_wp2_with fail
                refine (HX7.out _ HB.out).mono ?_
                rintro r w8 ⟨⟨v8, rfl, v80, v81⟩, hb8⟩
                have HB7 : Hid (Below w.heap.size w w8) := Lib.hid (HB.out.trans (hb8.mono HB.out.size))
                clear hb8 HB h1 h2 h3
                obtain ⟨h1, h2, h3⟩ := HSS.out _ HB7.out
                by_cases hv : v8 ≤ 2000
                · go_wp2_with fail
                  refine (HL7.out _ HB7.out).mono ?_
                  rintro r w9 ⟨⟨v9, rfl⟩, hb8⟩
                  have HB8 : Hid (Below w.heap.size w w9) := Lib.hid (HB7.out.trans (hb8.mono HB7.out.size))
                  clear hb8 HB7 h1 h2 h3
                  cases v9 with
                  | false =>
                    go_wp2_with fail
                    go_roundw
                    case rel => exact ⟨j + 1, by omega, by go_num, HB8⟩
                    case measure => simp [intOf]; omega
                  | true =>
                    go_wp2_with fail
                    go_ret2
                    exact ⟨⟨_, _, rfl⟩, HB8.out⟩
                · have hv' : 2000 < v8 := by omega
                  go_wp2_with fail
                  go_ret2
                  exact ⟨⟨_, _, rfl⟩, HB7.out⟩
              · have hjk : j = k := by omega
                subst hjk
                have hdd : decide ((j : Int) < j) = false := by rw [decide_eq_false_iff_not]; omega
                go_wp2_with fail
                go_ret2
                exact ⟨⟨_, _, rfl⟩, HB.out⟩
          · have q2 : (v7 == 0) = false := by rw [beq_eq_false_iff_ne]; exact hv7
            have q1 : (v7 != 0) = true := by rw [bne, q2]; rfl
            go_wp2_with fail
            go_ret2
            exact ⟨⟨_, _, rfl⟩, HB.out⟩
    · have hm1 : (100 : Int) < m := by omega
      go_wp2_with fail
      go_ret2
      exact ⟨⟨_, _, rfl⟩, HB.out⟩
  · have q2 : (v == 0) = false := by rw [beq_eq_false_iff_ne]; exact hv
    have q1 : (v != 0) = true := by rw [bne, q2]; rfl
    go_wp2_with fail
    go_ret2
    exact ⟨⟨_, _, rfl⟩, HB.out⟩
end Go.Proofs.YtlbkhhbbkedhkaaGreatDoor
