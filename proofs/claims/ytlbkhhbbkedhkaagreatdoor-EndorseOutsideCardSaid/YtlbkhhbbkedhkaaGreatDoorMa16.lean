/- endorse.InForce: the clauses in force (plain part). endorse.InForce: the walk. -/
import Derived.Test.YtlbkhhbbkedhkaaGreatDoorMa15
namespace Go.Proofs.YtlbkhhbbkedhkaaGreatDoor
open Go.RowKit
set_option linter.unusedVariables false

def clNone : Cl × WA := (⟨0, ByteArray.empty, .bot, 0, fun _ => .bot, 0⟩, ⟨⟨none, 0, none, 0⟩, none, 0⟩)
def zC (Z : ZL) (i : Nat) : Cl × WA := Z[i]?.getD clNone
theorem zC_get {Z : ZL} {i : Nat} (h : i < Z.length) : zC Z i = Z[i] := by simp [zC, h]
theorem zC_list {Z : ZL} {n : Nat} (h : Z.length = n) : listC n (fun i => (zC Z i).1) = Z.map Prod.fst := by
  subst h
  apply List.ext_getElem
  · simp [listC]
  · intro i h1 h2
    simp only [listC, List.length_map, List.length_range] at h1
    simp [listC, zC, h1]
theorem zF_C {Z : ZL} {j : Nat} (h : j / 10 < Z.length) : zF Z j = (zC Z (j / 10)).1.cell (zC Z (j / 10)).2 (j % 10) := by
  unfold zF
  rw [zC_get h, List.getElem?_eq_getElem h]
/-- a row of the call's own as a list of clauses -/
theorem ClsAt.own {w : World} {base g n cap : Nat} {e : TypeId} {Z : ZL} (h : Own w base g n cap 10 e (zF Z)) (hz : Z.length = n) (hi : ZIn g w Z) (hn : n ≤ 100000) : ClsAt w w.heap.size (some ⟨g, 0, none⟩) n (fun i => (zC Z i).1) :=
  ⟨by unfold big; omega, fun i => (zC Z i).2, Cells.congr h.cells fun j hj => zF_C (by omega), fun i hii => by
    have hlt : i < Z.length := by omega
    have e1 : zC Z i = Z[i] := zC_get hlt
    show ClAt w w.heap.size (zC Z i).1 (zC Z i).2
    rw [e1]
    exact (hi Z[i] (List.getElem_mem hlt)).to fun b hb => hb.2⟩

theorem findI_spec {L : List Cl} {s : ByteArray} {m : Nat} (h : findI L s = some m) : ∃ hm : m < L.length, L[m].name = s ∧ ∀ j (hj : j < m), L[j].name ≠ s := by
  unfold findI at h
  rw [List.findIdx?_eq_some_iff_getElem] at h
  obtain ⟨hm, h1, h2⟩ := h
  exact ⟨hm, bytes_eq.1 h1, fun j hj c => by have := h2 j hj; rw [c] at this; simp at this⟩
theorem findI_none' {L : List Cl} {s : ByteArray} (h : findI L s = none) : ∀ j (hj : j < L.length), L[j].name ≠ s := fun j hj c => by
  unfold findI at h
  rw [List.findIdx?_eq_none_iff] at h
  have := h L[j] (List.getElem_mem hj)
  rw [c] at this
  simp at this
theorem listC_get {n : Nat} {cs : Nat → Cl} {i : Nat} (h : i < (listC n cs).length) : (listC n cs)[i] = cs i := by simp [listC]
theorem listC_length (n : Nat) (cs : Nat → Cl) : (listC n cs).length = n := by simp [listC]
/-- what the search for the k-th name finds -/
theorem find_self {n : Nat} {cs : Nat → Cl} {k : Nat} (hk : k < n) : (∃ m, m ≤ k ∧ findI (listC n cs) (cs k).name = some m ∧ (m < k → ¬ distN n cs) ∧ (m = k → ∀ j, j < k → (cs j).name ≠ (cs k).name)) := by
  cases h : findI (listC n cs) (cs k).name with
  | none => exact absurd (by rw [listC_get]) (findI_none' h k (by rw [listC_length]; exact hk))
  | some m =>
    obtain ⟨hm, h1, h2⟩ := findI_spec h
    have hmn : m < n := by rw [listC_length] at hm; exact hm
    rw [listC_get] at h1
    have hmk : m ≤ k := by
      rcases Nat.lt_or_ge k m with c | c
      · exact absurd (by rw [listC_get]) (h2 k c)
      · exact c
    refine ⟨m, hmk, rfl, fun c d => d k hk m c h1, fun c j hj => ?_⟩
    have := h2 j (by omega)
    rwa [listC_get] at this

/-- every clause in force is one of the wording's -/
theorem remL_ok {P : Cl → Prop} {rm : Nat → ByteArray} {L : List Cl} : ∀ {k : Nat} {M : List Cl}, (∀ c, c ∈ L → P c) → remL rm k L = .ok M → ∀ c, c ∈ M → P c
  | 0, M, h, e => by
    rw [remL] at e
    injection e with e
    subst e
    exact h
  | k + 1, M, h, e => by
    cases hm : remL rm k L with
    | error x => rw [remL, hm] at e; cases e
    | ok N =>
      rw [remL_step hm] at e
      cases hf : findI N (rm k) with
      | none => rw [hf] at e; cases e
      | some i =>
        rw [hf] at e
        injection e with e
        subst e
        exact fun c hc => remL_ok h hm c (List.mem_of_mem_eraseIdx hc)
theorem addC_ok {P : Cl → Prop} {cs : Nat → Cl} {L : List Cl} : ∀ {k : Nat} {M : List Cl}, (∀ c, c ∈ L → P c) → (∀ i, i < k → P (cs i)) → addC cs k L = .ok M → ∀ c, c ∈ M → P c
  | 0, M, h, _, e => by
    rw [addC] at e
    injection e with e
    subst e
    exact h
  | k + 1, M, h, hc, e => by
    cases hm : addC cs k L with
    | error x => rw [addC, hm] at e; cases e
    | ok N =>
      rw [addC_step hm] at e
      cases hf : findI N (cs k).name with
      | some i => rw [hf] at e; cases e
      | none =>
        rw [hf] at e
        injection e with e
        subst e
        intro c hcc
        rcases List.mem_append.1 hcc with hcc | hcc
        · exact addC_ok h (fun i hi => hc i (by omega)) hm c hcc
        · rw [List.mem_singleton] at hcc
          rw [hcc]
          exact hc k (by omega)
theorem endL_ok {P : Cl → Prop} {L M : List Cl} {e : En} (h : ∀ c, c ∈ L → P c) (hc : ∀ i, i < e.nc → P (e.cs i)) (he : endL L e = .ok M) : ∀ c, c ∈ M → P c := by
  unfold endL at he
  cases h1 : remL e.rm e.nr L with
  | error x => rw [h1] at he; cases he
  | ok N =>
    rw [h1] at he
    cases h2 : addC e.cs e.nc N with
    | error x => simp only [h2] at he; cases he
    | ok N2 =>
      simp only [h2] at he
      split at he
      · cases he
      · injection he with he
        subst he
        exact addC_ok (remL_ok h h1) hc h2
theorem foldE_ok {P : Cl → Prop} {es : Nat → En} {act : Nat → Bool} {L : List Cl} : ∀ {k : Nat} {M : List Cl}, (∀ c, c ∈ L → P c) → (∀ i, i < k → ∀ j, j < (es i).nc → P ((es i).cs j)) → foldE es act k L = .ok M → ∀ c, c ∈ M → P c
  | 0, M, h, _, e => by
    rw [foldE] at e
    injection e with e
    subst e
    exact h
  | k + 1, M, h, hc, e => by
    cases hm : foldE es act k L with
    | error x => rw [foldE, hm] at e; cases e
    | ok N =>
      have hN := foldE_ok h (fun i hi => hc i (by omega)) hm
      rw [foldE, hm] at e
      simp only at e
      split at e
      · exact endL_ok hN (hc k (by omega)) e
      · injection e with e
        subst e
        exact hN
theorem foldE_error {es : Nat → En} {act : Nat → Bool} {L : List Cl} {e : Int} : ∀ {k m : Nat}, k ≤ m → foldE es act k L = .error e → foldE es act m L = .error e
  | k, 0, hm, h => by
    obtain rfl : k = 0 := by omega
    exact h
  | k, m + 1, hm, h => by
    by_cases c : k = m + 1
    · subst c; exact h
    · rw [foldE, foldE_error (k := k) (m := m) (by omega) h]
theorem foldE_skip {es : Nat → En} {act : Nat → Bool} {L M : List Cl} {k : Nat} (h : foldE es act k L = .ok M) (ha : act k = false) : foldE es act (k + 1) L = .ok M := by
  rw [foldE, h]
  simp [ha]
theorem foldE_step {es : Nat → En} {act : Nat → Bool} {L M : List Cl} {k : Nat} (h : foldE es act k L = .ok M) (ha : act k = true) : foldE es act (k + 1) L = endL M (es k) := by
  rw [foldE, h]
  simp [ha]
theorem infL_dup {x : Wr} {act : Nat → Bool} (h : ¬ distN x.nc x.cs) : infL x act = .error 8 := if_neg h
theorem infL_fold {x : Wr} {act : Nat → Bool} (h : distN x.nc x.cs) : infL x act = foldE x.es act x.ne (listC x.nc x.cs) := if_pos h

def actOf (x : Wr) (h : Int) (i : Nat) : Bool := inB' (x.es i).pf (x.es i).pt h
/-- what InForce returns -/
def InfP (R : Except Int (List Cl)) (w : World) (r : Ending) (w' : World) : Prop := Below w.heap.size w w' ∧
  ((∃ e : Int, R = .error e ∧ e ≠ 0 ∧ r = .returned (.tuple #[.slice none 0 0, .int .i64 e])) ∨
   ∃ (L : List Cl) (A : Option Addr) (n c : Nat) (cs : Nat → Cl), R = .ok L ∧ r = .returned (.tuple #[.slice A n c, .int .i64 0]) ∧ ClsAt w' w'.heap.size A n cs ∧ listC n cs = L)
/-- an element of a list is replaced by a clone of itself -/
theorem zF_put {Z : ZL} {w : World} {base g cap n i : Nat} {e : TypeId} {a : WA} (h : Own w base g n cap 10 e (zF Z)) (hn : Z.length = n) (hi : i < n) :
    Own (w.setCells g (i * 10) ((zC Z i).1.cells a).toList) base g n cap 10 e (zF (Z.set i ((zC Z i).1, a))) := by
  refine h.write (by rfl) hi fun j hj => ?_
  by_cases c : i * 10 ≤ j ∧ j < i * 10 + 10
  · rw [if_pos c, Cl.cells_get _ _ _ (by omega)]
    unfold zF
    rw [show j / 10 = i by omega, List.getElem?_set_self (by omega), show j - i * 10 = j % 10 by omega]
  · rw [if_neg c]
    congr 1
    exact zF_eq (List.getElem?_set_ne (by omega))
theorem map_put {Z : ZL} {i : Nat} {a : WA} (hi : i < Z.length) : (Z.set i ((zC Z i).1, a)).map Prod.fst = Z.map Prod.fst := by
  rw [List.map_set]
  apply List.ext_getElem
  · simp
  · intro j h1 h2
    simp only [List.getElem_set, List.getElem_map]
    split
    · rename_i e; subst e; rw [zC_get hi]
    · rfl
theorem zC_fst {Y Z : ZL} (h : Y.map Prod.fst = Z.map Prod.fst) (i : Nat) : (zC Y i).1 = (zC Z i).1 := by
  have e := congrArg (fun l => l[i]?) h
  simp only [List.getElem?_map] at e
  unfold zC
  cases hy : Y[i]? with
  | none =>
    cases hz : Z[i]? with
    | none => rfl
    | some z => rw [hy, hz] at e; cases e
  | some y =>
    cases hz : Z[i]? with
    | none => rw [hy, hz] at e; cases e
    | some z =>
      rw [hy, hz] at e
      injection e
theorem ZIn.put {g i : Nat} {w w' : World} {Z : ZL} {a : WA} (h : ZIn g w Z) (hl : Leaves (fun k => k = g) w w') (ha : ClIn (fun b => b ≠ g ∧ b < w.heap.size) w (zC Z i).1 a) : ZIn g w' (Z.set i ((zC Z i).1, a)) := fun z hz => by
  have hk : ∀ b o, (b ≠ g ∧ b < w.heap.size) → w'.cell? ⟨b, o, none⟩ = w.cell? ⟨b, o, none⟩ := fun b o hS => World.cell?_of_block (w := w) (hl.block b hS.2 hS.1)
  have hS : ∀ b, (b ≠ g ∧ b < w.heap.size) → (b ≠ g ∧ b < w'.heap.size) := fun b hS => ⟨hS.1, by have := hl.size; omega⟩
  rcases List.mem_or_eq_of_mem_set hz with hz | rfl
  · exact (h z hz).keep hk hS
  · exact ha.keep hk hS
end Go.Proofs.YtlbkhhbbkedhkaaGreatDoor
namespace Go.Proofs.YtlbkhhbbkedhkaaGreatDoor
open Go.RowKit
set_option linter.unusedVariables false

set_option maxRecDepth 100000 in
set_option maxHeartbeats 8000000 in
theorem inforce_any (x : Wr) (A E : Option Addr) (ca ce : Nat) (h : Int) (w : World) (ht : Tab w) (hx : WrAt w w.heap.size x A E) (hok : x.ok) (hpos : 0 < x.nc) (h0 : 0 ≤ h) (h1 : h ≤ 876599) :
    Calls Tryz.prog 11 #[.agg #[.slice A x.nc ca, .slice E x.ne ce], .int .i64 h] w (InfP (infL x (actOf x h)) w) := by
  have HTB := Lib.hid ht
  have htp := ht.pos
  have HX := Lib.hid hx
  have HW : Hid (∀ w, Tab w → WrAt w w.heap.size x A E → Calls Tryz.prog 20 #[.agg #[.slice A x.nc ca, .slice E x.ne ce]] w (IffPost x.ok w)) := Lib.hid fun w h1 h2 => wvalid_any x A E ca ce w h1 h2
  have HOK := Lib.hid hok
  have HDUP : Hid (¬ distN x.nc x.cs → infL x (actOf x h) = .error 8) := Lib.hid infL_dup
  have HFOLD : Hid (distN x.nc x.cs → infL x (actOf x h) = foldE x.es (actOf x h) x.ne (listC x.nc x.cs)) := Lib.hid infL_fold
  obtain ⟨R, hR⟩ : ∃ R, infL x (actOf x h) = R := ⟨_, rfl⟩
  have hact : ∀ i, actOf x h i = inB' (x.es i).pf (x.es i).pt h := fun i => rfl
  have HACT := Lib.hid hact
  obtain ⟨act, hac⟩ : ∃ act, actOf x h = act := ⟨_, rfl⟩
  have hcok : ∀ i, i < x.nc → (x.cs i).ok := hok.1.2.2
  have hc4 : x.nc ≤ 40 := hok.1.2.1
  have he12 : x.ne ≤ 12 := hok.1.1
  have heok := hok.2
  have HCOK := Lib.hid hcok
  have HEOK := Lib.hid heok
  rw [hR] at HDUP HFOLD ⊢
  rw [hac] at HFOLD HACT
  obtain ⟨nc, cs, ne, es⟩ := x
  have HEN : Hid (EnsAt w w.heap.size E ne es) := Lib.hid hx.2
  obtain ⟨hcl, _⟩ := hx
  simp only at HW HX HDUP HFOLD HCOK HEOK HACT hcl hpos hc4 he12 HOK ⊢
  have HCL := Lib.hid hcl
  obtain ⟨_, P, hcc, hee⟩ := hcl
  have HCC : Hid (Cells w w.heap.size A (nc * 10) (zF (zList nc cs P))) := Lib.hid (Cells.congr hcc fun j hj => (zF_zList hj).symm)
  have HZI : Hid (∀ i, i < nc → ClAt w w.heap.size (cs i) (P i)) := Lib.hid hee
  have HCI := Lib.hid cl_info
  have HNI := Lib.hid en_info
  clear ht hok hR hac hact hcok heok hcc hee
  go_enter Tryz.func11, Tryz.ntmps11
  go_upto_region 1 with (fail)
  have HB : Hid (Below w.heap.size w (w.alloc (.cells #[.slice A nc ca, .slice E ne ce] 25))) := Lib.hid ((Below.refl _ _).alloc (Nat.le_refl _) _)
  have HE := Lib.hid (Has.new w #[.slice A nc ca, .slice E ne ce] 25)
  obtain ⟨W, hW⟩ : ∃ W, w.alloc (.cells #[.slice A nc ca, .slice E ne ce] 25) = W := ⟨_, rfl⟩
  rw [hW] at HB HE ⊢
  clear hW
  obtain ⟨G, hG⟩ : ∃ G, w.heap.size = G := ⟨_, rfl⟩
  have HGE := Lib.hid hG
  rw [hG] at HE ⊢
  clear hG
  obtain ⟨e0, e1, e2⟩ := HE.out.rules
  have HC1 := Lib.hid (HW.out W (HTB.out.below HB.out htp) (HX.out.below HB.out HB.out.size))
  go_wp2_with fail
  refine HC1.out.mono ?_
  rintro r w1 ⟨b, rfl, hbe, hb⟩
  have hbt := hbe.2 HOK.out
  subst hbt
  replace HE := Lib.hid (HE.out.below hb HE.out.lt)
  replace HB : Hid (Below w.heap.size w w1) := Lib.hid (HB.out.trans (hb.mono HB.out.size))
  clear hb hbe HC1 e0 e1 e2 HW HOK
  obtain ⟨e0, e1, e2⟩ := HE.out.rules
  have HCC1 : Hid (Cells w1 w1.heap.size A (nc * 10) (zF (zList nc cs P))) := Lib.hid ((Cells.below HCC.out HB.out).mono HB.out.size)
  have HCL1 := Lib.hid (clone_cl A nc ca (zF (zList nc cs P)) w1 (by omega) HCC1.out (fun j hj => zF_one (by rw [zList_length]; exact hj)))
  go_wp2_with fail
  refine HCL1.out.mono ?_
  rintro r w2 hmade
  obtain ⟨A2, c2, rfl, hc2, hb1, hn1, ho1⟩ := RowMade.slice (by omega) hmade
  cases A2 with
  | none => exact absurd (hn1 rfl) (by omega)
  | some ad =>
  obtain ⟨g, rfl, how⟩ := ho1 _ rfl
  have HO : Hid (Own w2 w.heap.size g nc c2 10 46 (zF (zList nc cs P))) := Lib.hid (how.down HB.out.size)
  have hg1 : w1.heap.size ≤ g := how.base_le
  replace HE := Lib.hid (HE.out.below hb1 HE.out.lt)
  replace HB : Hid (Below w.heap.size w w2) := Lib.hid (HB.out.trans (hb1.mono HB.out.size))
  have HZI2 : Hid (ZIn g w2 (zList nc cs P)) := Lib.hid fun z hz => by
    obtain ⟨i, hi, rfl⟩ := List.mem_map.1 hz
    have hin := List.mem_range.1 hi
    exact (ClIn.of ((HZI.out i hin).below HB.out (Nat.le_refl _))).keep (fun _ _ _ => rfl) fun b hb => ⟨by have := HGE.out; omega, by have := HB.out.size; omega⟩
  clear hmade HCL1 HCC1 hb1 hn1 ho1 how e0 e1 e2 HCC HZI
  obtain ⟨e0, e1, e2⟩ := HE.out.rules
  go_wp2_with fail
  go_loopw [30] (fun i wr => ∃ k : Nat, k ≤ nc ∧ i = .int .i64 k ∧ Hid (Below w.heap.size w wr) ∧ Hid (Has wr G #[.slice A nc ca, .slice E ne ce] 25) ∧ Hid (Own wr w.heap.size g nc c2 10 46 (zF (zList nc cs P))) ∧ Hid (ZIn g wr (zList nc cs P)) ∧ Hid (∀ i, i < k → ∀ j, j < i → (cs j).name ≠ (cs i).name)) (fun i _ => nc - (intOf i).toNat)
  case atStart => exact ⟨0, Nat.zero_le _, rfl, HB, HE, HO, HZI2, Lib.hid fun i hi => by omega⟩
  case round =>
    clear HB HE HO HZI2 e0 e1 e2
    obtain ⟨k, hk, rfl, HB, HE, HO, HZI, HD⟩ := hrel
    obtain ⟨e0, e1, e2⟩ := HE.out.rules
    by_cases hlt : k < nc
    · have hzk : (zList nc cs P)[k]'(by rw [zList_length]; exact hlt) = (cs k, P k) := by simp [zList]
      have hrg := zF_range HO.out (zList_length nc cs P) hlt
      rw [hzk] at hrg
      simp only at hrg
      obtain ⟨x0, x1, x2, x3, x4, x5, hcs, _, hc1⟩ := Cl.cells_ex (cs k) (P k)
      rw [hcs] at hrg
      have HRG := Lib.hid hrg
      have HC1 := Lib.hid hc1
      obtain ⟨m, hmk, hfi, hm1, hm2⟩ := find_self (cs := cs) hlt
      have HFI := Lib.hid hfi
      have HM := Lib.hid (And.intro hm1 hm2)
      have HNK : Hid (∃ z, cs k = z) := Lib.hid ⟨_, rfl⟩
      obtain ⟨z, hz⟩ := HNK.out
      obtain ⟨pa, hpa⟩ : ∃ z, P k = z := ⟨_, rfl⟩
      rw [hz, hpa] at HRG HC1
      rw [hz] at HFI HM
      have HZE := Lib.hid hz
      obtain ⟨kd, nm, ye, yn, yu, am⟩ := z
      obtain ⟨pe, pA, pc⟩ := pa
      simp only at HRG HC1 HFI HM
      have hk0 : (0 : Int) ≤ k := by omega
      have hk1 : (k : Int) < nc := by omega
      have hgw : g < wr.heap.size := HO.out.lt
      clear hzk hrg hcs hc1 hfi hm1 hm2 hz hpa HNK
      go_upto_region 9 with (first
        | (refine wpList_load_mid ?_ 46 (.tmp 33) ?_ g (k * 10) ?_ _ _ HRG.out Tryz.underlying46 ?_ HCI.out ?_; rfl; rfl; rfl; rfl)
        | (refine wpList_store_has ?_ 46 (.tmp 8) (.tmp 34) ?_ wr.heap.size ?_ #[.int .i64 kd, .string nm, x0, x1, x2, x3, x4, x5, .slice pA yn pc, .int .i64 am] ?_ _ _ (Has.new wr _ _) HCI.out ?_ ?_ ?_; rfl; rfl; rfl; rfl; rfl; exact HC1.out; intro w5 hh5 hl5))
      have hb5 : Below wr.heap.size wr w5 := ((Below.refl _ _).alloc (Nat.le_refl _) _).trans (hl5.below (fun k hk => by omega) (by simp))
      have HH := Lib.hid hh5
      have HO5 := Lib.hid (HO.out.later hb5)
      have HIN5 := Lib.hid (HZI.out.below hb5)
      have hs := HB.out.size
      have HB5 : Hid (Below w.heap.size w w5) := Lib.hid (HB.out.trans (hb5.mono hs))
      have HE5 := Lib.hid (HE.out.below hb5 e2)
      obtain ⟨H, hH⟩ : ∃ H, wr.heap.size = H := ⟨_, rfl⟩
      rw [hH] at HH ⊢
      clear hb5 hh5 hl5 HRG HO HZI HB HE e0 e1 e2 hH hgw
      obtain ⟨e0, e1, e2⟩ := HH.out.rules
      have HFC := Lib.hid (find_any (some ⟨g, 0, none⟩) c2 (zList nc cs P) nc nm w5 (zList_length _ _ _) (by omega) HO5.out.cells)
      rw [zList_fst] at HFC
      go_wp2_with fail
      refine HFC.out.mono ?_
      rintro r w6 ⟨hb6, hf⟩
      rcases hf with ⟨i, rfl, hfi⟩ | ⟨rfl, hfi⟩
      · have him : i = m := by
          rw [HFI.out] at hfi
          injection hfi with hfi
          exact hfi.symm
        subst him
        have HO6 := Lib.hid (HO5.out.later hb6)
        have HIN6 := Lib.hid (HIN5.out.below hb6)
        have HB6 : Hid (Below w.heap.size w w6) := Lib.hid (HB5.out.trans (hb6.mono HB5.out.size))
        have HE6 := Lib.hid (HE5.out.below hb6 HE5.out.lt)
        clear HFC hb6 hfi HO5 HIN5 HB5 HE5 e0 e1 e2 HH
        by_cases hik : i < k
        · have hik' : (i : Int) < k := by omega
          have HRE : Hid (R = .error 8) := Lib.hid (HDUP.out (HM.out.1 hik))
          go_wp2_with fail
          go_ret2
          exact ⟨HB6.out, .inl ⟨8, HRE.out, by omega, rfl⟩⟩
        · have hie : i = k := by omega
          have HDK := Lib.hid (HM.out.2 hie)
          subst hie
          have hii : decide ((i : Int) < i) = false := by rw [decide_eq_false_iff_not]; omega
          go_wp2_with fail
          go_roundw
          case rel => exact ⟨i + 1, by omega, by go_num, HB6, HE6, HO6, HIN6, Lib.hid fun a ha j hj => by
            by_cases e : a = i
            · subst e
              rw [HZE.out]
              exact HDK.out j hj
            · exact HD.out a (by omega) j hj⟩
          case measure => simp [intOf]; omega
      · rw [HFI.out] at hfi
        cases hfi
    · have hkn : k = nc := by omega
      subst hkn
      have hdd : decide ((k : Int) < k) = false := by rw [decide_eq_false_iff_not]; omega
      have HRF : Hid (R = foldE es act ne (listC k cs)) := Lib.hid (HFOLD.out HD.out)
      have HF0 : Hid (foldE es act 0 (listC k cs) = .ok ((zList k cs P).map Prod.fst)) := Lib.hid (by rw [zList_fst]; rfl)
      have HZ0 := Lib.hid (zList_length k cs P)
      obtain ⟨Z0, hZ0⟩ : ∃ Z, zList k cs P = Z := ⟨_, rfl⟩
      obtain ⟨L0, hL0⟩ : ∃ L, listC k cs = L := ⟨_, rfl⟩
      have HL0 : Hid (∀ c, c ∈ L0 → c.ok) := Lib.hid fun c hc => by
        rw [← hL0] at hc
        obtain ⟨i, hi, rfl⟩ := List.mem_map.1 hc
        exact HCOK.out i (List.mem_range.1 hi)
      rw [hZ0] at HO HZI HF0 HZ0
      rw [hL0] at HRF HF0
      clear HDUP HFOLD HD hZ0 hL0 HCOK
      go_upto_region 14 with (fail)
      go_loopw [6, 49] (fun l i wr => ∃ (q g n cap : Nat) (Z : ZL), q ≤ ne ∧ n ≤ 100 ∧ i = .int .i64 q ∧ l = .slice (some ⟨g, 0, none⟩) n cap ∧ Z.length = n ∧ Hid (foldE es act q L0 = .ok (Z.map Prod.fst)) ∧ Hid (Own wr w.heap.size g n cap 10 46 (zF Z)) ∧ Hid (ZIn g wr Z) ∧ Hid (Below w.heap.size w wr)) (fun _ i _ => ne - (intOf i).toNat)
      case atStart => exact ⟨0, g, k, c2, Z0, Nat.zero_le _, by omega, rfl, rfl, HZ0.out, HF0, HO, HZI, HB⟩
      case round =>
        clear HB HE HO HZI e0 e1 e2 HF0 HZ0 hg1
        obtain ⟨q, g, n, cap, Z, hq, hn, rfl, rfl, hZ, HF, HO, HIN, HB⟩ := hrel
        have HZ := Lib.hid hZ
        clear hZ
        have hs := HB.out.size
        have hgw : g < wr.heap.size := HO.out.lt
        by_cases hlt : q < ne
        · obtain ⟨pa, bb, o, hAe, hbb, hxk, hrg⟩ := HEN.out.later HB.out (Nat.le_refl _) hlt
          subst hAe
          have HRG := Lib.hid hrg
          have HXK : Hid (EnAt wr w.heap.size (es q) pa) := Lib.hid hxk
          have HEQ := Lib.hid (HEOK.out q hlt)
          have HAQ := Lib.hid (HACT.out q)
          have HFS : Hid (act q = false → foldE es act (q + 1) L0 = .ok (Z.map Prod.fst)) := Lib.hid fun c => foldE_skip HF.out c
          have HFT : Hid (act q = true → foldE es act (q + 1) L0 = endL (Z.map Prod.fst) (es q)) := Lib.hid fun c => foldE_step HF.out c
          have HCALL : Hid (∀ W, Below wr.heap.size wr W → Calls Tryz.prog 28 #[.slice (some ⟨g, 0, none⟩) n cap, .agg ((es q).cells pa)] W (EndP (endL (Z.map Prod.fst) (es q)) w.heap.size W)) := Lib.hid fun W hb =>
            endorsed_any (es q) pa Z g n cap w.heap.size W (hxk.below (hb.mono hs) (Nat.le_refl _)) HZ.out (HO.out.later hb) (HIN.out.below hb) (by omega) (HEOK.out q hlt).1.2 (HEOK.out q hlt).2.2.1
          obtain ⟨EL, hEL⟩ : ∃ z, endL (Z.map Prod.fst) (es q) = z := ⟨_, rfl⟩
          rw [hEL] at HFT HCALL
          obtain ⟨y, hy⟩ : ∃ y, es q = y := ⟨_, rfl⟩
          rw [hy] at HRG HXK HEQ HAQ HCALL
          obtain ⟨pf, pt, nr, rm, mc, ms⟩ := y
          obtain ⟨Ar, cr, Ac, cc⟩ := pa
          have HRG' : Hid (wr.rangeAt bb (o + q * 4) [.int .i64 pf, .int .i64 pt, .slice Ar nr cr, .slice Ac mc cc]) := HRG
          have HCALL' : Hid (∀ W, Below wr.heap.size wr W → Calls Tryz.prog 28 #[.slice (some ⟨g, 0, none⟩) n cap, .agg #[.int .i64 pf, .int .i64 pt, .slice Ar nr cr, .slice Ac mc cc]] W (EndP EL w.heap.size W)) := HCALL
          have HC1' : Hid ((#[.int .i64 pf, .int .i64 pt, .slice Ar nr cr, .slice Ac mc cc] : Array Value).toList.all (·.oneCell') = true) := Lib.hid rfl
          simp only at HAQ
          obtain ⟨aq, haq⟩ : ∃ z, act q = z := ⟨_, rfl⟩
          rw [haq] at HAQ HFS HFT
          have C1 : Hid (∀ W, Calls Tryz.prog 27 #[.agg #[.int .i64 pf, .int .i64 pt], .int .i64 h] W (BolPost aq W)) := Lib.hid fun W => by rw [HAQ.out]; exact contains_any pf pt h W
          have hk0 : (0 : Int) ≤ q := by omega
          have hk1 : (q : Int) < ne := by omega
          clear hrg hxk hy hEL haq HRG HCALL HXK HEQ HAQ
          go_upto_region 16 with (first
            | (refine wpList_load_mid ?_ 49 (.tmp 51) ?_ bb (o + q * 4) ?_ _ _ HRG'.out Tryz.underlying49 ?_ HNI.out ?_; rfl; rfl; rfl; rfl)
            | (refine wpList_store_has ?_ 49 (.tmp 12) (.tmp 52) ?_ wr.heap.size ?_ #[.int .i64 pf, .int .i64 pt, .slice Ar nr cr, .slice Ac mc cc] ?_ _ _ (Has.new wr _ _) HNI.out rfl HC1'.out ?_; rfl; rfl; rfl; rfl; intro w5 hh5 hl5))
          have hb5 : Below wr.heap.size wr w5 := ((Below.refl _ _).alloc (Nat.le_refl _) _).trans (hl5.below (fun k hk => by omega) (by simp))
          have HH := Lib.hid hh5
          have HB5 := Lib.hid hb5
          obtain ⟨H, hH⟩ : ∃ H, wr.heap.size = H := ⟨_, rfl⟩
          have HHE := Lib.hid hH
          rw [hH] at HH ⊢
          clear hb5 hh5 hl5 HRG' HC1' hH
          obtain ⟨e0, e1, e2⟩ := HH.out.rules
          go_wp2_with fail
          refine (C1.out _).mono ?_
          rintro r w6 ⟨rfl, hb6⟩
          have HB6 : Hid (Below wr.heap.size wr w6) := Lib.hid (HB5.out.trans (hb6.mono HB5.out.size))
          have HH6 := Lib.hid (HH.out.below hb6 e2)
          clear hb6 C1 e0 e1 e2 HH HB5
          obtain ⟨e0, e1, e2⟩ := HH6.out.rules
          cases aq with
          | false =>
            have HF2 := Lib.hid (HFS.out rfl)
            have HO6 := Lib.hid (HO.out.later HB6.out)
            have HIN6 := Lib.hid (HIN.out.below HB6.out)
            have HB7 : Hid (Below w.heap.size w w6) := Lib.hid (HB.out.trans (HB6.out.mono hs))
            clear HFS HFT HCALL' HO HIN HB HB6 HF
            go_wp2_with fail
            go_roundw
            case rel => exact ⟨q + 1, g, n, cap, Z, by omega, hn, by go_num, rfl, HZ.out, HF2, HO6, HIN6, HB7⟩
            case measure => simp [intOf]; omega
          | true =>
            have HF2 := Lib.hid (HFT.out rfl)
            have HC2 := Lib.hid (HCALL'.out w6 HB6.out)
            have HB7 : Hid (Below w.heap.size w w6) := Lib.hid (HB.out.trans (HB6.out.mono hs))
            clear HFS HFT HCALL' HO HIN HB HB6 HF
            go_wp2_with ((refine wpList_load_has ?_ 49 (.tmp 12) ?_ H ?_ _ _ _ HH6.out Tryz.underlying49 ?_ HNI.out ?_; rfl; rfl; rfl; rfl))
            refine HC2.out.mono ?_
            rintro r w7 ⟨hb7, hf⟩
            have HB8 : Hid (Below w.heap.size w w7) := Lib.hid (HB7.out.trans hb7)
            clear hb7 HC2 HB7 HH6 e0 e1 e2
            rcases hf with ⟨ec, hec, hne, rfl⟩ | ⟨L, g', n', cap', Z', hL, rfl, hZf, hZn, hn', ho', hi'⟩
            · have HRE : Hid (R = .error ec) := Lib.hid (by rw [HRF.out]; exact foldE_error (show q + 1 ≤ ne by omega) (by rw [HF2.out, hec]))
              have hne' : (ec != 0) = true := by simpa using hne
              have HNE := Lib.hid hne
              clear hec hne HF2
              go_wp2_with fail
              go_ret2
              exact ⟨HB8.out, .inl ⟨ec, HRE.out, HNE.out, rfl⟩⟩
            · have HF3 : Hid (foldE es act (q + 1) L0 = .ok (Z'.map Prod.fst)) := Lib.hid (by rw [HF2.out, hL, hZf])
              have HO' := Lib.hid ho'
              have HI' := Lib.hid hi'
              have HZ' := Lib.hid hZn
              clear hL hZf hZn ho' hi' HF2
              go_wp2_with fail
              go_roundw
              case rel => exact ⟨q + 1, g', n', cap', Z', by omega, hn', by go_num, rfl, HZ'.out, HF3, HO', HI', HB8⟩
              case measure => simp [intOf]; omega
        · have hkn : q = ne := by omega
          subst hkn
          have hdd : decide ((q : Int) < q) = false := by rw [decide_eq_false_iff_not]; omega
          have HRO : Hid (R = .ok (Z.map Prod.fst)) := Lib.hid (by rw [HRF.out, HF.out])
          have HFEW : Hid (∀ i, i < n → (zC Z i).1.e.all fewQ ∧ fewL (zC Z i).1.n (zC Z i).1.us) := Lib.hid fun i hi => by
            have hlt : i < Z.length := by rw [HZ.out]; exact hi
            refine Cl.few (foldE_ok (P := Cl.ok) HL0.out (fun i hi j hj => (HEOK.out i hi).2.2.2 j hj) HF.out _ ?_)
            rw [zC_get hlt]
            exact List.mem_map.2 ⟨Z[i], List.getElem_mem hlt, rfl⟩
          clear HRF HF HEOK HACT HL0
          go_wp2_with fail
          go_upto_region 23 with (fail)
          go_loopw [71] (fun i wr => ∃ (j : Nat) (Y : ZL), j ≤ n ∧ i = .int .i64 j ∧ Y.length = n ∧ Y.map Prod.fst = Z.map Prod.fst ∧ Hid (Own wr w.heap.size g n cap 10 46 (zF Y)) ∧ Hid (ZIn g wr Y) ∧ Hid (Below w.heap.size w wr)) (fun i _ => n - (intOf i).toNat)
          case atStart => exact ⟨0, Z, Nat.zero_le _, rfl, HZ.out, rfl, HO, HIN, HB⟩
          case round =>
            clear HO HIN HB hs hgw
            obtain ⟨j, Y, hj, rfl, hY, hYZ, HO, HIN, HB⟩ := hrel
            have HY := Lib.hid hY
            have HYZ := Lib.hid hYZ
            clear hY hYZ
            have hgb : w.heap.size ≤ g := HO.out.base_le
            have hgw : g < wr.heap.size := HO.out.lt
            by_cases hjl : j < n
            · have hjY : j < Y.length := by rw [HY.out]; exact hjl
              have hrg := zF_range HO.out HY.out hjl
              rw [← zC_get hjY] at hrg
              have HRG := Lib.hid hrg
              have hcl : ClAt wr wr.heap.size (zC Y j).1 (zC Y j).2 := by
                rw [zC_get hjY]
                exact (HIN.out _ (List.getElem_mem hjY)).to fun b hb => hb.2
              have HCALL := Lib.hid (cloneclause_any (zC Y j).1 (zC Y j).2 wr hcl (by rw [zC_fst HYZ.out]; exact HFEW.out j hjl))
              have HCS : Hid (((zC Y j).1.cells (zC Y j).2).size = 10) := Lib.hid rfl
              have hkc : j < cap := by have := HO.out.len; omega
              have hk0 : (0 : Int) ≤ j := by omega
              have hk1 : (j : Int) < n := by omega
              obtain ⟨C0, hC0⟩ : ∃ z, (zC Y j).1.cells (zC Y j).2 = z := ⟨_, rfl⟩
              rw [hC0] at HRG HCALL HCS
              clear hrg hcl hC0 hjY
              go_wp2_with ((refine wpList_load_mid ?_ 46 (.tmp 78) ?_ g (j * 10) ?_ _ _ HRG.out Tryz.underlying46 ?_ (by rw [Array.length_toList, HCS.out]; exact HCI.out) ?_; rfl; rfl; rfl; rfl))
              refine HCALL.out.mono ?_
              rintro r w5 ⟨a', rfl, hin, hb5⟩
              have HO5 := Lib.hid (HO.out.later hb5)
              have HIN5 := Lib.hid (HIN.out.below hb5)
              have HB5 : Hid (Below w.heap.size w w5) := Lib.hid (HB.out.trans (hb5.mono HB.out.size))
              have HNEW : Hid (ClIn (fun b => b ≠ g ∧ b < w5.heap.size) w5 (zC Y j).1 a') := Lib.hid (hin.keep (fun _ _ _ => rfl) fun b hb => ⟨by omega, hb.2⟩)
              have HTH : Hid (w5.there g (j * 10) ((zC Y j).1.cells a').size) := Lib.hid (HO5.out.there hjl)
              have HC9 : Hid (((zC Y j).1.cells a').size = 10 ∧ ((zC Y j).1.cells a').all (·.oneCell') = true) := Lib.hid ⟨rfl, by rw [← Array.all_toList]; exact Cl.cells_one _ _⟩
              have HO6 := Lib.hid (zF_put (a := a') HO5.out HY.out hjl)
              have hl6 := leaves_setCells g ((zC Y j).1.cells a').toList (j * 10) w5
              have HIN6 := Lib.hid (HIN5.out.put hl6 HNEW.out)
              have HB6 : Hid (Below w.heap.size w (w5.setCells g (j * 10) ((zC Y j).1.cells a').toList)) := Lib.hid (HB5.out.trans (hl6.below (fun k hk => by omega) HB5.out.size))
              have HY6 : Hid ((Y.set j ((zC Y j).1, a')).length = n ∧ (Y.set j ((zC Y j).1, a')).map Prod.fst = Z.map Prod.fst) := Lib.hid ⟨by rw [List.length_set]; exact HY.out, by rw [map_put (by rw [HY.out]; exact hjl)]; exact HYZ.out⟩
              obtain ⟨Y6, hY6⟩ : ∃ z, Y.set j ((zC Y j).1, a') = z := ⟨_, rfl⟩
              obtain ⟨C1, hC1⟩ : ∃ z, (zC Y j).1.cells a' = z := ⟨_, rfl⟩
              rw [hY6] at HO6 HIN6 HY6
              rw [hC1] at HO6 HIN6 HB6 HTH HC9 ⊢
              clear hin hb5 hl6 hY6 hC1 HO5 HIN5 HB5 HNEW HO HIN HB HCALL HRG HY HYZ
              go_wp2_with ((refine wpList_store_mid ?_ 46 (.tmp 81) (.tmp 80) ?_ g (j * 10) C1 ?_ ?_ HTH.out (by rw [HC9.out.1]; exact HCI.out) HC9.out.2 ?_; rfl; rfl; rfl; rfl))
              go_roundw
              case rel => exact ⟨j + 1, Y6, by omega, by go_num, HY6.out.1, HY6.out.2, HO6, HIN6, HB6⟩
              case measure => simp [intOf]; omega
            · have hjn : j = n := by omega
              subst hjn
              have hdd : decide ((j : Int) < j) = false := by rw [decide_eq_false_iff_not]; omega
              go_wp2_with fail
              go_ret2
              exact ⟨HB.out, .inr ⟨_, _, j, cap, _, HRO.out, rfl, ClsAt.own HO.out HY.out HIN.out (by omega), by rw [zC_list HY.out]; exact HYZ.out⟩⟩
end Go.Proofs.YtlbkhhbbkedhkaaGreatDoor
