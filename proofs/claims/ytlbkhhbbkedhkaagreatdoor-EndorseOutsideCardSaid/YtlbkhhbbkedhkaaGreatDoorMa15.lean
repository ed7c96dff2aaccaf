/- copy between slices of structs. No program in sight. endorse.endorsed: an endorsement is applied to a list of the call's own. -/
import Derived.Test.YtlbkhhbbkedhkaaGreatDoorMa14
import Derived.Deep.RegionHeld3
namespace Go.Proofs.YtlbkhhbbkedhkaaGreatDoor
open Go.RowKit
set_option linter.unusedVariables false

theorem run_copy_structs {P : Program} (w : World) (dT sT ty elem : TypeId) (k b o dLen dCap : Nat) (a : Addr) (sLen sCap : Nat) (cs : List Value)
    (hu : P.underlying dT = some (.slice elem)) (hs : (P.info? elem).map (·.size) = some k) (hn : cs.length = Nat.min sLen dLen * k)
    (hsrc : ∀ j v, cs[j]? = some v → w.cell? (a.add j) = some v) (hc : w.there b o cs.length) (h1 : ∀ v ∈ cs, v.oneCell' = true) :
    (Builtin.copy_ #[dT, sT] ty #[.slice (some ⟨b, o, none⟩) dLen dCap, .slice (some a) sLen sCap]).run P w = .ok (goInt (Nat.min sLen dLen)) (w.setCells b o cs) := by
  have hl := run_loadCells_list (P := P) w a cs hsrc
  have hst := run_storeCells_cells (P := P) b o cs 0 w (fun j hj => by simpa using (hc j hj).1) (fun j hj => by simpa using (hc j hj).2) h1
  cases hq : P.info? elem with
  | none => simp [hq] at hs
  | some i =>
    have hi : i.size = k := by simpa [hq] using hs
    simp [Builtin.copy_, run_underlying hu, Builtin.lenOf, Builtin.firstCells, sizeOf, typeInfo, hq, hi, ← hn, hl, hst]

theorem step_copy_structs {P : Program} {ops : Array Oper} {o : Oper} {a : Act} {w : World} {K : Act → World → Prop} {Q : Exit → Act → World → Prop} {E : Prop} (hgd : o.guard = none) (d s : Operand) (dT sT : TypeId)
    (ho : o.op = .call { callee := .builtin .copy, args := #[d, s], argTypes := #[dT, sT] }) (elem : TypeId) (hu : P.underlying dT = some (.slice elem)) (k : Nat) (hsz : (P.info? elem).map (·.size) = some k)
    (g off dLen dCap : Nat) (ad : Addr) (sLen sCap : Nat) (hd : a.eval d = .slice (some ⟨g, off, none⟩) dLen dCap) (hs : a.eval s = .slice (some ad) sLen sCap)
    (c : Nat) (hcm : Nat.min sLen dLen = c) (cs : List Value) (hn : cs.length = c * k) (hsrc : ∀ j v, cs[j]? = some v → w.cell? (ad.add j) = some v) (hc : w.there g off cs.length) (h1 : ∀ v ∈ cs, v.oneCell' = true)
    (h : K (a.put o.dst (goInt c)) (w.setCells g off cs)) :
    if Region.wanted o (yielded ops a.tmps) = true then Oper.wp P o a w K Q else E := by
  subst hcm
  have hw : Region.wanted o (yielded ops a.tmps) = true := by simp [Region.wanted, hgd]
  rw [if_pos hw]
  have hrun := run_copy_structs (P := P) w dT sT o.type elem k g off dLen dCap ad sLen sCap cs hu hsz hn hsrc hc h1
  unfold Oper.wp
  simp [execOp, ho, resolve, invoke, builtin, hd, hs, hrun, Result.andThen]
  exact h

/-- an element is taken out of a row: what copy(l[i:], l[i+1:]) leaves -/
theorem zF_erase {Z : ZL} {w : World} {base g cap n i : Nat} {e : TypeId} (h : Own w base g n cap 10 e (zF Z)) (hn : Z.length = n) (hi : i < n) :
    Own (w.setCells g (i * 10) (rowL ((n - (i + 1)) * 10) fun j => zF Z ((i + 1) * 10 + j))) base g (n - 1) cap 10 e (zF (Z.eraseIdx i)) := by
  have h1 := h.writes (o := i * 10) (vs := rowL ((n - (i + 1)) * 10) fun j => zF Z ((i + 1) * 10 + j)) (G := fun j => if i * 10 ≤ j ∧ j < i * 10 + (n - (i + 1)) * 10 then zF Z (j + 10) else zF Z j) (by rw [rowL_length]; omega) fun j hj => by
    rw [rowL_length]
    by_cases c : i * 10 ≤ j ∧ j < i * 10 + (n - (i + 1)) * 10
    · rw [if_pos c, if_pos c, rowL_get _ _ _ (by omega), show (i + 1) * 10 + (j - i * 10) = j + 10 by omega]
    · rw [if_neg c, if_neg c]
  refine (h1.cut (m := n - 1) (by omega)).congr fun j hj => ?_
  by_cases c : i * 10 ≤ j ∧ j < i * 10 + (n - (i + 1)) * 10
  · rw [if_pos c]
    refine zF_shift ?_ (by omega)
    rw [List.getElem?_eraseIdx, if_neg (by omega), show (j + 10) / 10 = j / 10 + 1 by omega]
  · rw [if_neg c]
    refine zF_eq ?_
    rw [List.getElem?_eraseIdx, if_pos (by omega)]
end Go.Proofs.YtlbkhhbbkedhkaaGreatDoor
namespace Go.Proofs.YtlbkhhbbkedhkaaGreatDoor
open Go.RowKit
set_option linter.unusedVariables false

def ZIn (g : Nat) (w : World) (Z : ZL) : Prop := ∀ z, z ∈ Z → ClIn (fun b => b ≠ g ∧ b < w.heap.size) w z.1 z.2
theorem ZIn.leaves {g g' : Nat} {w w' : World} {Z : ZL} (h : ZIn g w Z) (hl : Leaves (fun k => k = g) w w') (hg : g' = g ∨ w.heap.size ≤ g') : ZIn g' w' Z := fun z hz =>
  (h z hz).keep (fun b o hS => World.cell?_of_block (w := w) (hl.block b hS.2 hS.1)) fun b hS => ⟨by omega, by have := hl.size; omega⟩
theorem ZIn.below {g : Nat} {w w' : World} {Z : ZL} (h : ZIn g w Z) (hb : Below w.heap.size w w') : ZIn g w' Z := h.leaves ((Leaves.refl _ w).step hb) (.inl rfl)
theorem ZIn.erase {g i : Nat} {w : World} {Z : ZL} (h : ZIn g w Z) : ZIn g w (Z.eraseIdx i) := fun z hz => h z (List.mem_of_mem_eraseIdx hz)
theorem ZIn.snoc {g : Nat} {w : World} {Z : ZL} {z : Cl × WA} (h : ZIn g w Z) (hz : ClIn (fun b => b ≠ g ∧ b < w.heap.size) w z.1 z.2) : ZIn g w (Z ++ [z]) := fun y hy => by
  rcases List.mem_append.1 hy with hy | hy
  · exact h y hy
  · rw [List.mem_singleton] at hy; subst hy; exact hz
theorem map_erase (Z : ZL) (i : Nat) : (Z.eraseIdx i).map Prod.fst = (Z.map Prod.fst).eraseIdx i := by
  rw [List.eraseIdx_eq_take_drop_succ, List.eraseIdx_eq_take_drop_succ, List.map_append, List.map_take, List.map_drop]

/-- what endorsed returns -/
def EndP (R : Except Int (List Cl)) (base : Nat) (w : World) (r : Ending) (w' : World) : Prop := Below base w w' ∧
  ((∃ e : Int, R = .error e ∧ e ≠ 0 ∧ r = .returned (.tuple #[.slice none 0 0, .int .i64 e])) ∨
   ∃ (L : List Cl) (g n cap : Nat) (Z : ZL), R = .ok L ∧ r = .returned (.tuple #[.slice (some ⟨g, 0, none⟩) n cap, .int .i64 0]) ∧ Z.map Prod.fst = L ∧ Z.length = n ∧ n ≤ 100 ∧ Own w' base g n cap 10 46 (zF Z) ∧ ZIn g w' Z)

theorem zF_snoc {Y : ZL} {m j : Nat} {z : Cl × WA} (hm : Y.length = m) (hj : j < (m + 1) * 10) : (rowL (m * 10) (zF Y) ++ (z.1.cells z.2).toList)[j]? = some (zF (Y ++ [z]) j) := by
  by_cases c : j < m * 10
  · rw [List.getElem?_append_left (by rw [rowL_length]; exact c), rowL_get _ _ _ c]
    congr 1
    exact zF_eq (by rw [List.getElem?_append_left (by omega)])
  · rw [List.getElem?_append_right (by rw [rowL_length]; omega), rowL_length, Cl.cells_get _ _ _ (by omega)]
    unfold zF
    rw [List.getElem?_append_right (by omega), show j / 10 - Y.length = 0 by omega, List.getElem?_cons_zero, show j - m * 10 = j % 10 by omega]
theorem remL_error {rm : Nat → ByteArray} {L : List Cl} {e : Int} : ∀ {k m : Nat}, k ≤ m → remL rm k L = .error e → remL rm m L = .error e
  | k, 0, hm, h => by
    obtain rfl : k = 0 := by omega
    exact h
  | k, m + 1, hm, h => by
    by_cases c : k = m + 1
    · subst c; exact h
    · rw [remL, remL_error (k := k) (m := m) (by omega) h]
theorem addC_error {cs : Nat → Cl} {L : List Cl} {e : Int} : ∀ {k m : Nat}, k ≤ m → addC cs k L = .error e → addC cs m L = .error e
  | k, 0, hm, h => by
    obtain rfl : k = 0 := by omega
    exact h
  | k, m + 1, hm, h => by
    by_cases c : k = m + 1
    · subst c; exact h
    · rw [addC, addC_error (k := k) (m := m) (by omega) h]
theorem remL_step {rm : Nat → ByteArray} {L M : List Cl} {k : Nat} (h : remL rm k L = .ok M) : remL rm (k + 1) L = match findI M (rm k) with | none => .error 7 | some i => .ok (M.eraseIdx i) := by
  simp only [remL, h]
  rfl
theorem addC_step {cs : Nat → Cl} {L M : List Cl} {k : Nat} (h : addC cs k L = .ok M) : addC cs (k + 1) L = match findI M (cs k).name with | some _ => .error 8 | none => .ok (M ++ [cs k]) := by
  simp only [addC, h]
  rfl

set_option maxRecDepth 100000 in
set_option maxHeartbeats 600000 in
theorem endorsed_any (e : En) (a : NA) (Z : ZL) (g n cap base : Nat) (w : World) (he : EnAt w base e a) (hz : Z.length = n) (ho : Own w base g n cap 10 46 (zF Z)) (hin : ZIn g w Z) (hn : n ≤ 200) (hr : e.nr ≤ 40) (hc : e.nc ≤ 40) :
    Calls Tryz.prog 28 #[.slice (some ⟨g, 0, none⟩) n cap, .agg (e.cells a)] w (EndP (endL (Z.map Prod.fst) e) base w) := by
  obtain ⟨pf, pt, nr, rm, nc, cs⟩ := e
  obtain ⟨Ar, cr, Ac, cc⟩ := a
  obtain ⟨_, hst, hcl⟩ := he
  have HST : Hid (Strs w base Ar nr rm) := Lib.hid hst
  have HCL : Hid (ClsAt w base Ac nc cs) := Lib.hid hcl
  simp only at hr hc
  have HO := Lib.hid ho
  have HIN := Lib.hid hin
  have HZ := Lib.hid hz
  have hbg : base ≤ g := ho.base_le
  have hgl : g < w.heap.size := ho.lt
  obtain ⟨L0, hL0⟩ : ∃ L, Z.map Prod.fst = L := ⟨_, rfl⟩
  have HL0 := Lib.hid hL0
  obtain ⟨R, hR⟩ : ∃ R, endL L0 (En.mk pf pt nr rm nc cs) = R := ⟨_, rfl⟩
  have HR : Hid (R = match remL rm nr L0 with | .error x => .error x | .ok M => match addC cs nc M with | .error x => .error x | .ok N => if N.length > 100 then .error 4 else .ok N) := Lib.hid hR.symm
  rw [hL0, hR]
  have HCI := Lib.hid cl_info
  obtain ⟨i0, hi0, hz0, hz1, hz2⟩ := info_parts cl_all
  have HI := Lib.hid hi0
  have HZ0 := Lib.hid hz0
  have HZ1 := Lib.hid hz1
  have HZ2 := Lib.hid hz2
  clear hst hcl ho hin hz hL0 hR hi0 hz0 hz1 hz2
  unfold En.cells
  simp only
  go_enter Tryz.func28, Tryz.ntmps28
  go_upto_region 1 with (fail)
  have hb1 : Below w.heap.size w (w.alloc (.cells #[.int .i64 pf, .int .i64 pt, .slice Ar nr cr, .slice Ac nc cc] 49)) := (Below.refl _ _).alloc (Nat.le_refl _) _
  have HE := Lib.hid (Has.new w #[.int .i64 pf, .int .i64 pt, .slice Ar nr cr, .slice Ac nc cc] 49)
  have HO1 := Lib.hid (HO.out.later hb1)
  have HIN1 := Lib.hid (HIN.out.below hb1)
  have HB1 := Lib.hid (hb1.mono (show base ≤ w.heap.size by omega))
  obtain ⟨W, hW⟩ : ∃ W, w.alloc (.cells #[.int .i64 pf, .int .i64 pt, .slice Ar nr cr, .slice Ac nc cc] 49) = W := ⟨_, rfl⟩
  obtain ⟨G, hG⟩ : ∃ G, w.heap.size = G := ⟨_, rfl⟩
  rw [hW] at HE HO1 HIN1 HB1 ⊢
  rw [hG] at HE hgl ⊢
  clear hW hG hb1 HO HIN
  obtain ⟨e0, e1, e2⟩ := HE.out.rules
  go_wp2_with fail
  go_loopw [0, 17] (fun l i wr => ∃ (k m : Nat) (Y : ZL), k ≤ nr ∧ m ≤ n ∧ i = .int .i64 k ∧ l = .slice (some ⟨g, 0, none⟩) m cap ∧ Y.length = m ∧ Hid (remL rm k L0 = .ok (Y.map Prod.fst)) ∧ Hid (Own wr base g m cap 10 46 (zF Y)) ∧ Hid (ZIn g wr Y) ∧ Hid (Has wr G #[.int .i64 pf, .int .i64 pt, .slice Ar nr cr, .slice Ac nc cc] 49) ∧ Hid (Below base w wr)) (fun _ i _ => nr - (intOf i).toNat)
  case atStart => exact ⟨0, n, Z, Nat.zero_le _, Nat.le_refl _, rfl, rfl, HZ.out, Lib.hid (by rw [HL0.out]; rfl), HO1, HIN1, HE, HB1⟩
  case round =>
    clear HO1 HIN1 HE HB1 e0 e1 e2 HZ HL0
    obtain ⟨k, m, Y, hk, hm, rfl, rfl, hY, HRM, HO, HIN, HE, HB⟩ := hrel
    have HY := Lib.hid hY
    clear hY
    by_cases hlt : k < nr
    · obtain ⟨b, o, rfl, hbl, hcc⟩ := Strs.get HST.out hlt
      obtain ⟨s, hs⟩ : ∃ s, rm k = s := ⟨_, rfl⟩
      have hc0 : wr.cell? ⟨b, o + k, none⟩ = some (.string s) := by rw [HB.out.cell (p := ⟨b, o + k, none⟩) hbl, ← hs]; exact hcc k hlt
      have hk0 : (0 : Int) ≤ k := by omega
      have hk1 : (k : Int) < nr := by omega
      have HRS := Lib.hid (remL_step HRM.out)
      rw [hs] at HRS
      obtain ⟨M, hM⟩ : ∃ M, Y.map Prod.fst = M := ⟨_, rfl⟩
      have HM := Lib.hid hM
      have HFC := Lib.hid (find_any (some ⟨g, 0, none⟩) cap Y m s wr HY.out (by omega) HO.out.cells)
      rw [hM] at HFC HRS
      clear hcc hs hM
      go_wp2_with fail
      refine HFC.out.mono ?_
      rintro r w2 ⟨hb2, hf⟩
      rcases hf with ⟨i, rfl, hfi⟩ | ⟨rfl, hfi⟩
      · rw [hfi] at HRS
        have hiM : i < m := by
          have := findI_lt hfi
          rw [← HM.out, List.length_map, HY.out] at this
          exact this
        have HRS' : Hid (remL rm (k + 1) L0 = .ok (M.eraseIdx i)) := HRS
        have HO2 := Lib.hid (HO.out.later hb2)
        have HIN2 := Lib.hid (HIN.out.below hb2)
        have hgw : g < wr.heap.size := HO.out.lt
        have HB2 : Hid (Below base w w2) := Lib.hid (HB.out.trans (hb2.mono (by omega)))
        have HE2 := Lib.hid (HE.out.below hb2 HE.out.lt)
        have hmc := HO.out.len.1
        clear HO HIN HB HE HFC hb2 hfi HRS hc0 HRM
        have hi0 : (0 : Int) ≤ i := by omega
        have hi1 : (i : Int) < m := by omega
        have hi2 : (i : Int) ≤ m := by omega
        have hmc' : (m : Int) ≤ cap := by omega
        have hcl' := HO2.out.len.2
        unfold maxLen at hcl'
        obtain ⟨i1, hi1e⟩ : ∃ i1, i + 1 = i1 := ⟨_, rfl⟩
        obtain ⟨m1, hm1e⟩ : ∃ m1, m - 1 = m1 := ⟨_, rfl⟩
        obtain ⟨q, hqe⟩ : ∃ q, m - i1 = q := ⟨_, rfl⟩
        have hwr : IntKind.i64.wrap ((i : Int) + 1) = (i1 : Int) := by rw [IntKind.wrap_i64]; omega
        have hwr2 : IntKind.i64.wrap ((i : Int) + (q : Int)) = (m1 : Int) := by rw [IntKind.wrap_i64]; omega
        have hne : ¬ cap = i := by omega
        have hj0 : (0 : Int) ≤ i1 := by omega
        have hj1 : (i1 : Int) ≤ m := by omega
        have hj2 : (0 : Int) ≤ m1 := by omega
        have hj3 : (m1 : Int) ≤ cap := by omega
        have hmin : Nat.min (m - i1) (m - i) = q := by
          rw [← hqe]; exact Nat.min_eq_left (by omega)
        obtain ⟨CS, hCS⟩ : ∃ CS, (rowL (q * 10) fun j => zF Y (i1 * 10 + j)) = CS := ⟨_, rfl⟩
        have HCL : Hid (CS.length = q * 10) := Lib.hid (by rw [← hCS, rowL_length])
        have HC1 : Hid (∀ v ∈ CS, v.oneCell' = true) := Lib.hid fun v hv => by
          rw [← hCS] at hv
          obtain ⟨j, hj, rfl⟩ := List.mem_map.1 hv
          exact zF_one (by rw [HY.out]; have := List.mem_range.1 hj; omega)
        have HTH : Hid (∀ W : World, W.heap = w2.heap → W.there g (i * 10) CS.length) := Lib.hid fun W hW => by
          rw [HCL.out]
          exact (HO2.out.of_block (w' := W) (by rw [hW])).there' (by omega)
        have HSR : Hid (∀ W : World, W.heap = w2.heap → ∀ ad : Addr, (q ≠ 0 → ad = ⟨g, i1 * 10, none⟩) → ∀ j v, CS[j]? = some v → W.cell? (ad.add j) = some v) := Lib.hid fun W hW ad had j v hj => by
          have hjl : j < q * 10 := by rw [← HCL.out]; exact (List.getElem?_eq_some_iff.1 hj).1
          rw [had (by omega), Addr.add_mid, (HO2.out.of_block (w' := W) (by rw [hW])).cell (by omega), ← hj, ← hCS, rowL_get _ _ _ hjl]
        have HNW : Hid (∀ W : World, W.heap = w2.heap → Own (W.setCells g (i * 10) CS) base g m1 cap 10 46 (zF (Y.eraseIdx i))) := Lib.hid fun W hW => by
          have := zF_erase (HO2.out.of_block (w' := W) (by rw [hW])) HY.out hiM
          rw [hi1e, hqe, hm1e, hCS] at this
          exact this
        have HLE : Hid ((Y.eraseIdx i).length = m1 ∧ q = m - i1) := Lib.hid ⟨by rw [List.length_eraseIdx, if_pos (by rw [HY.out]; exact hiM), HY.out, hm1e], hqe.symm⟩
        have HMI : Hid (i1 = i + 1 ∧ m1 = m - 1) := Lib.hid ⟨hi1e.symm, hm1e.symm⟩
        clear hi1e hm1e hqe hCS
        have hl3 : Leaves (fun k => k = g) w2 (w2.drew.setCells g (i * 10) CS) := ((Leaves.refl _ w2).drew).trans (leaves_setCells g CS (i * 10) w2.drew)
        have HO3 := Lib.hid (HNW.out w2.drew rfl)
        have HIN3 := Lib.hid ((HIN2.out.leaves hl3 (.inl rfl)).erase (i := i))
        have HE3 := Lib.hid (HE2.out.leaves hl3 (by omega))
        have HB3 : Hid (Below base w (w2.drew.setCells g (i * 10) CS)) := Lib.hid (HB2.out.trans (hl3.below (fun k hk => by omega) (by have := HO2.out.lt; omega)))
        have HRM3 : Hid (remL rm (k + 1) L0 = .ok ((Y.eraseIdx i).map Prod.fst)) := Lib.hid (by rw [map_erase, HM.out]; exact HRS'.out)
        have HY3 := Lib.hid HLE.out.1
        have hm13 : m1 ≤ n := by have := HMI.out; omega
        obtain ⟨W3, hW3⟩ : ∃ z, w2.drew.setCells g (i * 10) CS = z := ⟨_, rfl⟩
        rw [hW3] at HO3 HIN3 HE3 HB3
        have HW3 := Lib.hid hW3
        obtain ⟨Y3, hY3⟩ : ∃ z, Y.eraseIdx i = z := ⟨_, rfl⟩
        rw [hY3] at HO3 HIN3 HRM3 HY3
        clear hl3 HNW HIN2 HE2 HB2 hW3 hY3 HRS' HM
        by_cases hcap : cap = i1
        · have hq0 : q = 0 := by have := HLE.out; omega
          subst hq0
          have hm1c : m = i1 := by have := HLE.out; have := HMI.out; omega
          subst hm1c
          subst hcap
          have hwr3 : IntKind.i64.wrap (i : Int) = (m1 : Int) := by rw [← hwr2]; simp
          go_upto_region 7 with (fail)
          go_region_held3 (fun _ => True) (trivial) (first | (refine step_copy_structs rfl _ _ 22 22 rfl 46 Tryz.underlying22 10 HCI.out g (i * 10) _ _ ⟨g, 0, none⟩ _ _ rfl rfl 0 ?hmn CS HCL.out (HSR.out _ ?hw _ (fun c => absurd rfl c)) (HTH.out _ ?hw2) HC1.out ?_; (case hw => rfl); (case hw2 => rfl); (case hmn => first | exact hmin | simp)))
          rw [HW3.out]
          clear HSR HTH HC1 HCL HO2 hwr hwr2 hne hj0 hj1 hj2 hj3 hmin HLE HMI
          go_wp2_with fail
          go_roundw
          case rel => exact ⟨k + 1, m1, Y3, by omega, hm13, by go_num, rfl, HY3.out, HRM3, HO3, HIN3, HE3, HB3⟩
          case measure => simp [intOf]; omega
        · go_upto_region 7 with (fail)
          go_region_held3 (fun _ => True) (trivial) (first | (refine step_copy_structs rfl _ _ 22 22 rfl 46 Tryz.underlying22 10 HCI.out g (i * 10) (m - i) (cap - i) ⟨g, i1 * 10, none⟩ (m - i1) (cap - i1) rfl rfl q hmin CS HCL.out (HSR.out _ ?hw _ (fun _ => rfl)) (HTH.out _ ?hw2) HC1.out ?_; (case hw => rfl); (case hw2 => rfl)))
          rw [HW3.out]
          clear HSR HTH HC1 HCL HO2 hwr hwr2 hne hj0 hj1 hj2 hj3 hmin HLE HMI
          go_wp2_with fail
          go_roundw
          case rel => exact ⟨k + 1, m1, Y3, by omega, hm13, by go_num, rfl, HY3.out, HRM3, HO3, HIN3, HE3, HB3⟩
          case measure => simp [intOf]; omega
      · rw [hfi] at HRS
        have HRE : Hid (R = .error 7) := Lib.hid (by
          have := remL_error (show k + 1 ≤ nr by omega) HRS.out
          rw [HR.out, this])
        have HB2 : Hid (Below base w w2) := Lib.hid (HB.out.trans (hb2.mono (by have := HO.out.lt; omega)))
        clear HO HIN HB HE HFC hb2 hfi HRS hc0
        go_wp2_with fail
        go_ret2
        exact ⟨HB2.out, .inl ⟨7, HRE.out, by omega, rfl⟩⟩
    · have hkn : k = nr := by omega
      subst hkn
      have hdd : decide ((k : Int) < k) = false := by rw [decide_eq_false_iff_not]; omega
      obtain ⟨M, hM⟩ : ∃ M, Y.map Prod.fst = M := ⟨_, rfl⟩
      rw [hM] at HRM
      have HR2 : Hid (R = match addC cs nc M with | .error x => .error x | .ok N => if N.length > 100 then .error 4 else .ok N) := Lib.hid (by rw [HR.out, HRM.out])
      have HAD0 : Hid (addC cs 0 M = .ok (Y.map Prod.fst)) := Lib.hid (by rw [hM]; rfl)
      obtain ⟨e0, e1, e2⟩ := HE.out.rules
      clear HR HRM hM HST
      go_upto_region 10 with (fail)
      go_loopw [0, 45] (fun l i wr => ∃ (q g m cap : Nat) (Y : ZL), q ≤ nc ∧ m ≤ n + q ∧ i = .int .i64 q ∧ l = .slice (some ⟨g, 0, none⟩) m cap ∧ Y.length = m ∧ Hid (addC cs q M = .ok (Y.map Prod.fst)) ∧ Hid (Own wr base g m cap 10 46 (zF Y)) ∧ Hid (ZIn g wr Y) ∧ Hid (Below base w wr)) (fun _ i _ => nc - (intOf i).toNat)
      case atStart => exact ⟨0, g, m, cap, Y, Nat.zero_le _, by omega, rfl, rfl, HY.out, HAD0, HO, HIN, HB⟩
      case round =>
        clear HAD0 HO HIN HB HE HY e0 e1 e2 hbg hgl
        obtain ⟨q, g, m, cap, Y, hq, hm, rfl, rfl, hY, HAD, HO, HIN, HB⟩ := hrel
        have HY := Lib.hid hY
        clear hY
        have hgw : g < wr.heap.size := HO.out.lt
        have hbg : base ≤ g := HO.out.base_le
        by_cases hlt : q < nc
        · obtain ⟨pa, bb, o, hAc, hbb, hxk, hrg⟩ := HCL.out.later HB.out (Nat.le_refl base) hlt
          subst hAc
          obtain ⟨x0, x1, x2, x3, x4, x5, hcs, _, hc1⟩ := Cl.cells_ex (cs q) pa
          rw [hcs] at hrg
          have HRG := Lib.hid hrg
          have HC1 := Lib.hid hc1
          have HADS := Lib.hid (addC_step HAD.out)
          obtain ⟨N, hN⟩ : ∃ N, Y.map Prod.fst = N := ⟨_, rfl⟩
          have HN := Lib.hid hN
          rw [hN] at HADS
          have HZC : Hid (∀ j, j < (m + 1) * 10 → (rowL (m * 10) (zF Y) ++ ((cs q).cells pa).toList)[j]? = some (zF (Y ++ [(cs q, pa)]) j)) := Lib.hid fun j hj => zF_snoc (z := (cs q, pa)) HY.out hj
          rw [hcs] at HZC
          have HXK : Hid (ClIn (fun b => b < base) wr (cs q) pa) := Lib.hid (ClIn.of hxk)
          obtain ⟨z, hz⟩ : ∃ z, cs q = z := ⟨_, rfl⟩
          rw [hz] at HZC HXK HADS HRG HC1
          obtain ⟨kd, nm, ye, yn, yu, am⟩ := z
          obtain ⟨pe, pA, pc⟩ := pa
          simp only at HZC HRG HC1 HADS
          have hk0 : (0 : Int) ≤ q := by omega
          have hk1 : (q : Int) < nc := by omega
          clear hrg hcs hc1 hxk hz hN
          go_upto_region 12 with (first
            | (refine wpList_load_mid ?_ 46 (.tmp 47) ?_ bb (o + q * 10) ?_ _ _ HRG.out Tryz.underlying46 ?_ HCI.out ?_; rfl; rfl; rfl; rfl)
            | (refine wpList_store_has ?_ 46 (.tmp 11) (.tmp 48) ?_ wr.heap.size ?_ #[.int .i64 kd, .string nm, x0, x1, x2, x3, x4, x5, .slice pA yn pc, .int .i64 am] ?_ _ _ (Has.new wr _ _) HCI.out ?_ ?_ ?_; rfl; rfl; rfl; rfl; rfl; exact HC1.out; intro w5 hh5 hl5))
          have hb5 : Below wr.heap.size wr w5 := ((Below.refl _ _).alloc (Nat.le_refl _) _).trans (hl5.below (fun k hk => by omega) (by simp))
          have HH := Lib.hid hh5
          have HO5 := Lib.hid (HO.out.later hb5)
          have HIN5 := Lib.hid (HIN.out.below hb5)
          have HB5 : Hid (Below base w w5) := Lib.hid (HB.out.trans (hb5.mono (by omega)))
          have HXK5 : Hid (ClIn (fun b => b < base) w5 (Cl.mk kd nm ye yn yu am) ⟨pe, pA, pc⟩) := Lib.hid (HXK.out.keep (fun b o hS => hb5.cell (p := ⟨b, o, none⟩) (by simp only; omega)) fun b hS => hS)
          obtain ⟨H, hH⟩ : ∃ H, wr.heap.size = H := ⟨_, rfl⟩
          rw [hH] at HH hgw ⊢
          clear hb5 hh5 hl5 HRG HO HIN HB HXK hH
          obtain ⟨e0, e1, e2⟩ := HH.out.rules
          have HFC := Lib.hid (find_any (some ⟨g, 0, none⟩) cap Y m nm w5 HY.out (by omega) HO5.out.cells)
          rw [HN.out] at HFC
          go_wp2_with fail
          refine HFC.out.mono ?_
          rintro r w6 ⟨hb6, hf⟩
          have HO6 := Lib.hid (HO5.out.later hb6)
          have HIN6 := Lib.hid (HIN5.out.below hb6)
          have HB6 : Hid (Below base w w6) := Lib.hid (HB5.out.trans (hb6.mono (by omega)))
          have HH6 := Lib.hid (HH.out.below hb6 HH.out.lt)
          have HXK6 : Hid (ClIn (fun b => b < base) w6 (Cl.mk kd nm ye yn yu am) ⟨pe, pA, pc⟩) := Lib.hid (HXK5.out.keep (fun b o hS => hb6.cell (p := ⟨b, o, none⟩) (by simp only; omega)) fun b hS => hS)
          rcases hf with ⟨i, rfl, hfi⟩ | ⟨rfl, hfi⟩
          · rw [hfi] at HADS
            have HRE : Hid (R = .error 8) := Lib.hid (by
              have := addC_error (show q + 1 ≤ nc by omega) HADS.out
              rw [HR2.out, this])
            clear HO5 HIN5 HB5 HFC hb6 hfi HADS e0 e1 e2 HH HXK5
            go_wp2_with fail
            go_ret2
            exact ⟨HB6.out, .inl ⟨8, HRE.out, by omega, rfl⟩⟩
          · rw [hfi] at HADS
            have HAD' : Hid (addC cs (q + 1) M = .ok ((Y ++ [(Cl.mk kd nm ye yn yu am, (⟨pe, pA, pc⟩ : WA))]).map Prod.fst)) := Lib.hid (by rw [List.map_append, HN.out]; exact HADS.out)
            have hg6 : g < w6.heap.size := HO6.out.lt
            clear HO5 HIN5 HB5 HFC hb6 hfi HADS e0 e1 e2 HH HXK5 HAD
            obtain ⟨e0, e1, e2⟩ := HH6.out.rules
            have h1L : Hid (∀ u ∈ ([.int .i64 kd, .string nm, x0, x1, x2, x3, x4, x5, .slice pA yn pc, .int .i64 am] : List Value), u.oneCell' = true) := Lib.hid (List.all_eq_true.1 HC1.out)
            go_wp2_with (first
              | (refine wpList_load_has ?_ 46 (.tmp 11) ?_ H ?_ _ _ _ HH6.out Tryz.underlying46 ?_ HCI.out ?_; rfl; rfl; rfl; rfl)
              | (at_builtin; refine wpList_append_lies _ rfl _ _ 22 rfl base 46 i0 _ 10 144 Tryz.underlying22 HI.out HZ0.out HZ1.out HZ2.out rfl (by omega) _ m (rowL (m * 10) (zF Y)) rfl (HO6.out.row.alloc _) ⟨w6.heap.size, 0, none⟩ 1 1 [.int .i64 kd, .string nm, x0, x1, x2, x3, x4, x5, .slice pA yn pc, .int .i64 am] rfl rfl (World.news_of_block (cs := #[.int .i64 kd, .string nm, x0, x1, x2, x3, x4, x5, .slice pA yn pc, .int .i64 am]) (t := 46) (fr := (0, 0)) (heap_alloc_new w6 _)) h1L.out (by omega) (by unfold maxLen; omega) (by omega) (by simp; omega) (w6.heap.size + 1) (by simp) ?_; intro g2 cap2 w7 hown hgrow hat hlt7))
            have HO7 : Hid (Own w7 base g2 (m + 1) cap2 10 46 (zF (Y ++ [(Cl.mk kd nm ye yn yu am, (⟨pe, pA, pc⟩ : WA))]))) := Lib.hid (Own.of_row hown HZC.out)
            have hl7 : Leaves (fun k => k = g) w6 w7 := ((Leaves.refl _ w6).alloc _).grown hgrow (fun k hk => .inl (by injection hk with hk; exact hk.symm))
            have hg2 : g2 = g ∨ w6.heap.size ≤ g2 := by
              rcases hat with h | h
              · injection h with h
                exact .inl h.symm
              · exact .inr (by omega)
            have HIN7 : Hid (ZIn g2 w7 (Y ++ [(Cl.mk kd nm ye yn yu am, (⟨pe, pA, pc⟩ : WA))])) := Lib.hid ((HIN6.out.snoc (HXK6.out.keep (fun _ _ _ => rfl) fun b hS => ⟨by omega, by omega⟩)).leaves hl7 hg2)
            have HB7 : Hid (Below base w w7) := Lib.hid (HB6.out.trans (hl7.below (fun k hk => by omega) (by omega)))
            have HY7 : Hid ((Y ++ [(Cl.mk kd nm ye yn yu am, (⟨pe, pA, pc⟩ : WA))]).length = m + 1) := Lib.hid (by rw [List.length_append, HY.out]; rfl)
            clear hown hgrow hat hl7 hg2 HO6 HIN6 HB6 HXK6 HH6 e0 e1 e2
            go_roundw
            case rel => exact ⟨q + 1, g2, m + 1, cap2, _, by omega, by omega, by go_num, rfl, HY7.out, HAD', HO7, HIN7, HB7⟩
            case measure => simp [intOf]; omega
        · have hkn : q = nc := by omega
          subst hkn
          have hdd : decide ((q : Int) < q) = false := by rw [decide_eq_false_iff_not]; omega
          have HR3 : Hid (R = if m > 100 then .error 4 else .ok (Y.map Prod.fst)) := Lib.hid (by
            rw [HR2.out, HAD.out]
            simp only [List.length_map, HY.out])
          by_cases h1 : 100 < m
          · have h1' : (100 : Int) < m := by omega
            have HRE : Hid (R = .error 4) := Lib.hid (by rw [HR3.out, if_pos h1])
            clear h1
            go_wp2_with fail
            go_ret2
            exact ⟨HB.out, .inl ⟨4, HRE.out, by omega, rfl⟩⟩
          · have h1' : (m : Int) ≤ 100 := by omega
            have HRO : Hid (R = .ok (Y.map Prod.fst)) := Lib.hid (by rw [HR3.out, if_neg h1])
            go_wp2_with fail
            go_ret2
            exact ⟨HB.out, .inr ⟨_, g, m, cap, Y, HRO.out, rfl, rfl, HY.out, by omega, HO.out, HIN.out⟩⟩
end Go.Proofs.YtlbkhhbbkedhkaaGreatDoor
