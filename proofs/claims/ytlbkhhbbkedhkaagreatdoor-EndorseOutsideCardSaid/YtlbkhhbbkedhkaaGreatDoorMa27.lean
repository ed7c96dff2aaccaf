/- treatymade.Schema: one of six valid schemas. Deck.Clauses: what is known in its loop. -/
import Derived.Test.YtlbkhhbbkedhkaaGreatDoorMa17
import Derived.Test.YtlbkhhbbkedhkaaGreatDoorMa26
namespace Go.Proofs.YtlbkhhbbkedhkaaGreatDoor
open Go.RowKit
set_option linter.unusedVariables false

abbrev ZA := List (Att × (Option Addr × Nat))
def zA (Z : ZA) (i : Nat) : Att × (Option Addr × Nat) := Z.getD i (⟨ByteArray.empty, 3, 0, fun _ => ByteArray.empty, 0, 0⟩, (none, 0))
def sfl : ZA → List Value
  | [] => []
  | z :: r => (z.1.cells z.2).toList ++ sfl r
theorem sfl_get : ∀ (Z : ZA) (j : Nat), j < Z.length * 5 → (sfl Z)[j]? = some ((zA Z (j / 5)).1.cell (zA Z (j / 5)).2 (j % 5))
  | [], j, h => by simp at h
  | z :: r, j, h => by
    have h5 : (z.1.cells z.2).toList.length = 5 := rfl
    rw [sfl]
    by_cases c : j < 5
    · rw [List.getElem?_append_left (by omega), Nat.div_eq_of_lt c, Nat.mod_eq_of_lt c, Att.cells_get _ _ _ c]
      rfl
    · rw [List.getElem?_append_right (by omega), h5, sfl_get r (j - 5) (by simp only [List.length_cons] at h; omega), show j / 5 = (j - 5) / 5 + 1 by omega, show j % 5 = (j - 5) % 5 by omega]
      rfl
theorem sch_out {S : Nat → Prop} {w : World} {H : Nat} {cs : Array Value} {t : TypeId} (Z : ZA) (h : Has w H cs t) (hc : cs.toList = sfl Z) (hS : S H) (hn : 1 ≤ Z.length ∧ Z.length ≤ 6)
    (hz : ∀ z ∈ Z, (CellsS S w z.2.1 z.1.nw (fun j => .string (z.1.ws j)) ∧ z.1.nw ≤ z.2.2) ∧ z.1.ok) : SchIn S w (some ⟨H, 0, none⟩) Z.length fun i => (zA Z i).1 := by
  refine ⟨hn, fun i => (zA Z i).2, fun _ => ⟨H, 0, rfl, hS, fun j hj => ?_⟩, fun i hi => ?_⟩
  · rw [Nat.zero_add, h.cell, ← Array.getElem?_toList, hc, sfl_get Z j hj]
  · have : zA Z i = Z[i] := by unfold zA; rw [List.getD_eq_getElem?_getD, List.getElem?_eq_getElem hi]; rfl
    have hm : zA Z i ∈ Z := by rw [this]; exact List.getElem_mem hi
    exact hz _ hm

/-- what Schema returns -/
def SchP (w : World) (r : Ending) (w' : World) : Prop := ∃ (A : Option Addr) (n c : Nat) (ats : Nat → Att), r = .returned (.agg #[.slice A n c]) ∧ SchIn (fun i => w.heap.size ≤ i ∧ i < w'.heap.size) w' A n ats ∧ Below w.heap.size w w'
def perW (j : Nat) : ByteArray := if j = 0 then ⟨#[102, 105, 114, 101]⟩ else if j = 1 then ⟨#[102, 108, 111, 111, 100]⟩ else if j = 2 then ⟨#[119, 105, 110, 100]⟩ else ⟨#[116, 104, 101, 102, 116]⟩
def perA : Att := ⟨⟨#[112, 101, 114, 105, 108]⟩, 1, 4, perW, 0, 0⟩
set_option maxRecDepth 100000 in
theorem words_ok {n : Nat} {f : Nat → ByteArray} (hn : n ≤ 4) (h1 : ∀ i, i < n → nameB (f i) = true) (h2 : ∀ i, i < n → ∀ k, k < i → (f i).toList ≠ (f k).toList) : n ≤ 12 ∧ namesP n f ∧ distP n f :=
  ⟨by omega, h1, fun i hi k hk e => h2 i hi k hk (by rw [e])⟩
set_option maxRecDepth 100000 in
theorem perA_ok : perA.ok := by
  refine ⟨by decide +kernel, words_ok (by decide) (fun i hi => ?_) (fun i hi k hk => ?_), .inl ⟨rfl, by decide⟩⟩
  · have hi : i < 4 := hi
    match i, hi with
    | 0, _ | 1, _ | 2, _ | 3, _ => exact by decide +kernel
  · have hi : i < 4 := hi
    match i, hi, k, hk with
    | 1, _, 0, _ | 2, _, 0, _ | 2, _, 1, _ | 3, _, 0, _ | 3, _, 1, _ | 3, _, 2, _ => exact by decide +kernel
def PerP (w : World) (r : Ending) (w' : World) : Prop := ∃ g : Nat, r = .returned (.agg #[.string ⟨#[112, 101, 114, 105, 108]⟩, .int .i64 1, .slice (some ⟨g, 0, none⟩) 4 4, .int .i64 0, .int .i64 0]) ∧ (w.heap.size ≤ g ∧ g < w'.heap.size) ∧ (∀ j, j < 4 → w'.cell? ⟨g, 0 + j, none⟩ = some (.string (perW j))) ∧ Below w.heap.size w w'
set_option maxRecDepth 100000 in
set_option maxHeartbeats 1000000 in
theorem peril_any (w : World) : Calls Tryz.prog 37 #[] w (PerP w) := by
  have HAI := Lib.hid at_info
  go_enter Tryz.func37, Tryz.ntmps37
  go_upto_region 1 with (fail)
  go_wp2_with fail
  refine bodyPost_ret (results_cell_row rfl _ _ w.heap.size _ _ _ _ ?_ ((Has.new w _ _).alloc _) Tryz.underlying80 rfl HAI.out) rfl ?_
  · rfl
  · refine ⟨w.heap.size + 1, rfl, ⟨by omega, by simp⟩, fun j hj => ?_, ((Below.refl _ _).alloc (Nat.le_refl _) _).alloc (by simp) _⟩
    rw [Nat.zero_add, (Has.new' (w.alloc _) (w.heap.size + 1) _ _ (by simp)).cell]
    match j, hj with
    | 0, _ | 1, _ | 2, _ | 3, _ => rfl

def pl (name : ByteArray) (kd lo hi : Int) : Att × (Option Addr × Nat) := (⟨name, kd, 0, fun _ => ByteArray.empty, lo, hi⟩, (none, 0))
def AtIn (S : Nat → Prop) (w : World) (z : Att × (Option Addr × Nat)) : Prop := (CellsS S w z.2.1 z.1.nw (fun j => .string (z.1.ws j)) ∧ z.1.nw ≤ z.2.2) ∧ z.1.ok
theorem pl_in {S : Nat → Prop} {w : World} {name : ByteArray} {kd lo hi : Int} (h : nameB name = true) (hk : (kd = 2 ∧ -1000000000 ≤ lo ∧ lo ≤ hi ∧ hi ≤ 1000000000) ∨ kd = 3) : AtIn S w (pl name kd lo hi) :=
  ⟨⟨CellsS.zero, Nat.le_refl _⟩, h, ⟨by show 0 ≤ 12; omega, fun i hi => (by exact absurd hi (Nat.not_lt_zero _)), fun i hi => (by exact absurd hi (Nat.not_lt_zero _))⟩, by
    rcases hk with h | h
    · exact .inr (.inl h)
    · exact .inr (.inr h)⟩
theorem sch_fin {w w9 : World} {H : Nat} {cs : Array Value} {t : TypeId} (Z : ZA) (hb : Below w.heap.size w w9) (h : Has w9 H cs t) (hc : cs.toList = sfl Z) (hH : w.heap.size ≤ H) (hn : 1 ≤ Z.length ∧ Z.length ≤ 6) (hz : ∀ z ∈ Z, AtIn (fun i => w.heap.size ≤ i ∧ i < w9.heap.size) w9 z) :
    SchP w (.returned (.agg #[.slice (some ⟨H, 0, none⟩) Z.length Z.length])) w9 :=
  ⟨_, _, _, _, rfl, sch_out Z h hc ⟨hH, h.lt⟩ hn hz, hb⟩
theorem in1 {p : Att × (Option Addr × Nat) → Prop} {a} (ha : p a) : ∀ z ∈ [a], p z := fun z hz => by
  rw [List.mem_singleton] at hz; subst hz; exact ha
theorem inC {p : Att × (Option Addr × Nat) → Prop} {a} {r : ZA} (ha : p a) (hr : ∀ z ∈ r, p z) : ∀ z ∈ a :: r, p z := fun z hz => by
  rcases List.mem_cons.1 hz with rfl | h
  · exact ha
  · exact hr z h
def crewA : Att := ⟨⟨#[114, 111, 108, 101]⟩, 1, 2, fun j => if j = 0 then ⟨#[99, 114, 101, 119]⟩ else ⟨#[103, 117, 101, 115, 116]⟩, 0, 0⟩
def onlyA : Att := ⟨⟨#[111, 110, 101]⟩, 1, 1, fun _ => ⟨#[111, 110, 108, 121]⟩, 0, 0⟩
set_option maxRecDepth 100000 in
theorem crewA_ok : crewA.ok := by
  refine ⟨by decide +kernel, words_ok (by decide) (fun i hi => ?_) (fun i hi k hk => ?_), .inl ⟨rfl, by decide⟩⟩
  · have hi : i < 2 := hi
    match i, hi with
    | 0, _ | 1, _ => exact by decide +kernel
  · have hi : i < 2 := hi
    match i, hi, k, hk with
    | 1, _, 0, _ => exact by decide +kernel
set_option maxRecDepth 100000 in
theorem onlyA_ok : onlyA.ok := by
  refine ⟨by decide +kernel, words_ok (by decide) (fun i hi => ?_) (fun i hi k hk => ?_), .inl ⟨rfl, by decide⟩⟩
  · have hi : i < 1 := hi
    match i, hi with
    | 0, _ => exact by decide +kernel
  · have hi : i < 1 := hi
    omega
theorem crew_in {S : Nat → Prop} {w : World} {g : Nat} (hS : S g) (h0 : w.cell? ⟨g, 0, none⟩ = some (.string ⟨#[99, 114, 101, 119]⟩)) (h1 : w.cell? ⟨g, 1, none⟩ = some (.string ⟨#[103, 117, 101, 115, 116]⟩)) : AtIn S w (crewA, (some ⟨g, 0, none⟩, 2)) :=
  ⟨⟨fun _ => ⟨g, 0, rfl, hS, fun j hj => by
    have hj : j < 2 := hj
    match j, hj with
    | 0, _ => exact h0
    | 1, _ => exact h1⟩, Nat.le_refl _⟩, crewA_ok⟩
theorem only_in {S : Nat → Prop} {w : World} {g : Nat} (hS : S g) (h0 : w.cell? ⟨g, 0, none⟩ = some (.string ⟨#[111, 110, 108, 121]⟩)) : AtIn S w (onlyA, (some ⟨g, 0, none⟩, 1)) :=
  ⟨⟨fun _ => ⟨g, 0, rfl, hS, fun j hj => by
    have hj : j < 1 := hj
    obtain rfl : j = 0 := by omega
    exact h0⟩, Nat.le_refl _⟩, onlyA_ok⟩
theorem per_in {S : Nat → Prop} {w : World} {g : Nat} (hS : S g) (h : ∀ j, j < 4 → w.cell? ⟨g, 0 + j, none⟩ = some (.string (perW j))) : AtIn S w (perA, (some ⟨g, 0, none⟩, 4)) :=
  ⟨⟨fun _ => ⟨g, 0, rfl, hS, h⟩, Nat.le_refl _⟩, perA_ok⟩
set_option maxRecDepth 100000 in
set_option maxHeartbeats 2000000 in
theorem schema_made (k : Int) (w : World) : Calls Tryz.prog 17 #[.int .i64 k] w (SchP w) := by
  have hw := Am.within_bound k 6 (by omega)
  have HSI : Hid ((Tryz.prog.info? 56).map (·.size) = some 1) := Lib.hid (by kernel_rfl)
  go_enter Tryz.func17, Tryz.ntmps17
  go_upto_region 1 with (fail)
  go_wp2_with fail
  refine (within_any k 6 _ (by omega) (by omega)).mono ?_
  rintro r w1 ⟨rfl, rfl⟩
  obtain ⟨v, hv⟩ : ∃ v, Am.within k 6 = v := ⟨_, rfl⟩
  rw [hv] at hw ⊢
  clear hv
  have hc : v = 0 ∨ v = 1 ∨ v = 2 ∨ v = 3 ∨ v = 4 ∨ v = 5 := by omega
  clear hw
  have hb0 : Below w.heap.size w (w.alloc (.cells #[.slice none 0 0] 56)) := (Below.refl _ _).alloc (Nat.le_refl _) _
  have HB0 := Lib.hid hb0
  clear hb0
  rcases hc with rfl | rfl | rfl | rfl | rfl | rfl
  · go_wp2_with fail
    refine (peril_any _).mono ?_
    rintro r w2 ⟨g, rfl, hg, hgc, hb⟩
    have HR := Lib.hid ((Has.new w #[.slice none 0 0] 56).below hb (by simp))
    have HG := Lib.hid hgc
    have HB := Lib.hid (HB0.out.trans (hb.mono (by simp)))
    rw [show (w.alloc (.cells #[.slice none 0 0] 56)).heap.size = w.heap.size + 1 by simp] at hg
    clear hgc hb
    obtain ⟨r0, r1, r2⟩ := HR.out.rules
    go_wp2_with fail
    refine bodyPost_ret (results_cell_row rfl _ _ w.heap.size _ _ _ _ ?_ ((HR.out.put 0 _).alloc _) Tryz.underlying56 rfl HSI.out) rfl ?_
    · rfl
    · refine sch_fin [(perA, (some ⟨g, 0, none⟩, 4)), pl ⟨#[115, 116, 111, 114, 101, 121, 115]⟩ 2 1 9, pl ⟨#[97, 108, 97, 114, 109]⟩ 3 0 0] ((HB.out.setCell (p := ⟨w.heap.size, 0, none⟩) (Nat.le_refl _) (.slice (some ⟨w2.heap.size, 0, none⟩) 3 3)).alloc (by simp; omega) _) (Has.new' _ w2.heap.size _ _ (by simp)) (by rfl) (by omega) (by simp) (inC (per_in ⟨by omega, by simp; omega⟩ fun j hj => ?_) (inC (pl_in (by decide +kernel) (.inl ⟨rfl, by omega, by omega, by omega⟩)) (in1 (pl_in (by decide +kernel) (.inr rfl)))))
      rw [World.cell?_alloc_old _ _ _ (by simp; omega), World.cell?_setCell_other _ _ _ _ (by intro e; injection e with e; omega)]
      exact HG.out j hj
  · go_wp2_with fail
    refine bodyPost_ret (results_cell_row rfl _ _ w.heap.size _ _ _ _ ?_ ((Has.new w _ _).alloc _) Tryz.underlying56 rfl HSI.out) rfl ?_
    · rfl
    · exact sch_fin [pl ⟨#[110]⟩ 2 (-5) 20] (((Below.refl _ _).alloc (Nat.le_refl _) _).alloc (by simp) _) (Has.new' _ (w.heap.size + 1) _ _ (by simp)) (by rfl) (by omega) (by simp) (in1 (pl_in (by decide +kernel) (.inl ⟨rfl, by omega, by omega, by omega⟩)))
  · go_wp2_with fail
    refine bodyPost_ret (results_cell_row rfl _ _ w.heap.size _ _ _ _ ?_ (((Has.new w _ _).alloc _).alloc _) Tryz.underlying56 rfl HSI.out) rfl ?_
    · rfl
    · refine sch_fin [pl ⟨#[97]⟩ 3 0 0, (crewA, (some ⟨w.heap.size + 1, 0, none⟩, 2)), pl ⟨#[98]⟩ 3 0 0] ((((Below.refl _ _).alloc (Nat.le_refl _) _).alloc (by simp) _).alloc (by simp; omega) _) (Has.new' _ (w.heap.size + 2) _ _ (by simp)) (by rfl) (by omega) (by simp) (inC (pl_in (by decide +kernel) (.inr rfl)) (inC (crew_in ⟨by omega, by simp⟩ ?_ ?_) (in1 (pl_in (by decide +kernel) (.inr rfl)))))
      all_goals
        rw [((Has.new' (w.alloc _) (w.heap.size + 1) _ _ (by simp)).alloc _).cell]
        rfl
  · go_wp2_with fail
    refine bodyPost_ret (results_cell_row rfl _ _ w.heap.size _ _ _ _ ?_ ((Has.new w _ _).alloc _) Tryz.underlying56 rfl HSI.out) rfl ?_
    · rfl
    · exact sch_fin [pl ⟨#[110]⟩ 2 (-1000000000) 1000000000, pl ⟨#[116]⟩ 3 0 0] (((Below.refl _ _).alloc (Nat.le_refl _) _).alloc (by simp) _) (Has.new' _ (w.heap.size + 1) _ _ (by simp)) (by rfl) (by omega) (by simp) (inC (pl_in (by decide +kernel) (.inl ⟨rfl, by omega, by omega, by omega⟩)) (in1 (pl_in (by decide +kernel) (.inr rfl))))
  · go_wp2_with fail
    refine (peril_any _).mono ?_
    rintro r w2 ⟨g, rfl, hg, hgc, hb⟩
    have HR := Lib.hid (((Has.new w #[.slice none 0 0] 56).alloc (.cells #[.string ⟨#[111, 110, 108, 121]⟩] 9)).below hb (by simp; omega))
    have HQ := Lib.hid ((Has.new' (w.alloc (.cells #[.slice none 0 0] 56)) (w.heap.size + 1) #[.string ⟨#[111, 110, 108, 121]⟩] 9 (by simp)).below hb (by simp))
    have HG := Lib.hid hgc
    have HB : Hid (Below w.heap.size w w2) := Lib.hid ((HB0.out.alloc (by simp) _).trans (hb.mono (by simp; omega)))
    rw [show ((w.alloc (.cells #[.slice none 0 0] 56)).alloc (.cells #[.string ⟨#[111, 110, 108, 121]⟩] 9)).heap.size = w.heap.size + 2 by simp] at hg
    clear hgc hb
    obtain ⟨r0, r1, r2⟩ := HR.out.rules
    go_wp2_with fail
    have h1 := HQ.out.lt
    refine bodyPost_ret (results_cell_row rfl _ _ w.heap.size _ _ _ _ ?_ ((HR.out.put 0 _).alloc _) Tryz.underlying56 rfl HSI.out) rfl ?_
    · rfl
    · refine sch_fin [(onlyA, (some ⟨w.heap.size + 1, 0, none⟩, 1)), (perA, (some ⟨g, 0, none⟩, 4)), pl ⟨#[110]⟩ 2 0 6, pl ⟨#[116]⟩ 3 0 0] ((HB.out.setCell (p := ⟨w.heap.size, 0, none⟩) (Nat.le_refl _) (.slice (some ⟨w2.heap.size, 0, none⟩) 4 4)).alloc (by simp; omega) _) (Has.new' _ w2.heap.size _ _ (by simp)) (by rfl) (by omega) (by simp) (inC (only_in ⟨by omega, by simp; omega⟩ ?_) (inC (per_in ⟨by omega, by simp; omega⟩ fun j hj => ?_) (inC (pl_in (by decide +kernel) (.inl ⟨rfl, by omega, by omega, by omega⟩)) (in1 (pl_in (by decide +kernel) (.inr rfl))))))
      · rw [World.cell?_alloc_old _ _ _ (by simp; omega), World.cell?_setCell_other _ _ _ _ (by intro e; injection e with e; omega), HQ.out.cell]
        rfl
      · rw [World.cell?_alloc_old _ _ _ (by simp; omega), World.cell?_setCell_other _ _ _ _ (by intro e; injection e with e; omega)]
        exact HG.out j hj
  · go_wp2_with fail
    refine bodyPost_ret (results_cell_row rfl _ _ w.heap.size _ _ _ _ ?_ ((Has.new w _ _).alloc _) Tryz.underlying56 rfl HSI.out) rfl ?_
    · rfl
    · exact sch_fin [pl ⟨#[116]⟩ 3 0 0] (((Below.refl _ _).alloc (Nat.le_refl _) _).alloc (by simp) _) (Has.new' _ (w.heap.size + 1) _ _ (by simp)) (by rfl) (by omega) (by simp) (in1 (pl_in (by decide +kernel) (.inr rfl)))
end Go.Proofs.YtlbkhhbbkedhkaaGreatDoor
namespace Go.Proofs.YtlbkhhbbkedhkaaGreatDoor
open Go.RowKit
set_option linter.unusedVariables false

abbrev clC (x : Cl × WA) (j : Nat) : Value := x.1.cell x.2 j
def clQ (S : Nat → Prop) (w : World) (x : Cl × WA) : Prop := ClIn S w x.1 x.2 ∧ x.1.ok
theorem clQ_moves : Moves clQ := fun S T w w' x h hk hS => ⟨h.1.keep hk hS, h.2⟩
/-- the names of a list of clauses go up -/
def upN (p : ByteArray) (t m : Nat) (zs : Nat → Cl × WA) (κ : Nat → Nat) : Prop := ∀ i, i < m → ((zs i).1.name = letL p (κ i) ∧ κ i < t) ∧ ∀ j, j < i → κ j < κ i
theorem upN.more {p : ByteArray} {t t' m : Nat} {zs : Nat → Cl × WA} {κ : Nat → Nat} (h : upN p t m zs κ) (ht : t ≤ t') : upN p t' m zs κ := fun i hi => ⟨⟨(h i hi).1.1, by have := (h i hi).1.2; omega⟩, (h i hi).2⟩
theorem upN.snoc {p : ByteArray} {t m : Nat} {zs : Nat → Cl × WA} {κ : Nat → Nat} {x : Cl × WA} (h : upN p t m zs κ) (hx : x.1.name = letL p t) : upN p (t + 1) (m + 1) (updN zs m x) (updN κ m t) := fun i hi => by
  by_cases e : i = m
  · subst e
    rw [updN_at, updN_at]
    exact ⟨⟨hx, by omega⟩, fun j hj => by rw [updN_lt hj]; exact (h j hj).1.2⟩
  · have hi' : i < m := by omega
    rw [updN_lt hi', updN_lt hi']
    exact ⟨⟨(h i hi').1.1, by have := (h i hi').1.2; omega⟩, fun j hj => by rw [updN_lt (by omega)]; exact (h i hi').2 j hj⟩

/-- what Deck.Clauses returns -/
def MadeL (p : ByteArray) (N b : Nat) (w : World) (r : Ending) (w' : World) : Prop := ∃ (A : Option Addr) (m c : Nat) (zs : Nat → Cl × WA) (κ : Nat → Nat), r = .returned (.slice A m c) ∧ (1 ≤ m ∧ m ≤ N + 1) ∧
  CellsS (fun i => w.heap.size ≤ i ∧ i < w'.heap.size) w' A (m * 10) (rowF 10 clC zs) ∧ (∀ i, i < m → clQ (fun i => w.heap.size ≤ i ∧ i < w'.heap.size) w' (zs i)) ∧ upN p (N + 1) m zs κ ∧ Keeps b w w' ∧ IsDeck w' b

/-- a list of clauses off the block of the schema and off the row of the names -/
def LisC (G : Nat) (wr : World) (An Al : Option Addr) (m : Nat) (zs : Nat → Cl × WA) : Prop := CellsS (aS G G An wr) wr Al (m * 10) (rowF 10 clC zs) ∧ ∀ i, i < m → clQ (aS G G An wr) wr (zs i)
def NamI (G : Nat) (wr : World) (An : Option Addr) (nn cn : Nat) (f : Nat → ByteArray) : Prop := wr.ownsRow (G + 1) 9 1 (.slice An nn cn) nn (rowL nn fun i => .string (f i)) ∧ ∀ i, i < nn → nameB (f i) = true

section
variable {G b : Nat} {wr w1 : World} {An Al : Option Addr} {m nn cn : Nat} {zs : Nat → Cl × WA} {f : Nat → ByteArray}
theorem aS_keeps (hk : Keeps b wr w1) (hb : b < G) : (∀ i o, aS G G An wr i → w1.cell? ⟨i, o, none⟩ = wr.cell? ⟨i, o, none⟩) ∧ ∀ i, aS G G An wr i → aS G G An w1 i :=
  ⟨fun i o hi => World.cell?_of_block (w := wr) (hk.block i hi.2.2.1 (by have := hi.1; omega)), fun i hi => ⟨hi.1, hi.2.1, by have := hi.2.2.1; have := hk.size; omega, hi.2.2.2⟩⟩
theorem LisC.keeps (h : LisC G wr An Al m zs) (hk : Keeps b wr w1) (hb : b < G) : LisC G w1 An Al m zs :=
  ⟨h.1.keep (aS_keeps hk hb).1 (aS_keeps hk hb).2, fun i hi => clQ_moves _ _ _ _ _ (h.2 i hi) (aS_keeps hk hb).1 (aS_keeps hk hb).2⟩
theorem NamI.keeps (h : NamI G wr An nn cn f) (hk : Keeps b wr w1) (hb : b < G) : NamI G w1 An nn cn f := ⟨own_keeps h.1 hk (by omega), h.2⟩
theorem NamI.nil : NamI G wr none 0 0 f := ⟨⟨rfl, .inl ⟨rfl, rfl⟩⟩, fun i hi => by omega⟩
theorem NamI.nmIn (h : NamI G wr An nn cn f) (hb : b < G) (hn : nn ≤ 10) : NmIn (off b wr) wr An nn f := by
  refine ⟨hn, ?_, h.2⟩
  rcases Own.made (F := fun j => .string (f j)) h.1 (fun j hj => by rw [Nat.mul_one] at hj; exact rowL_get _ _ j hj) with ⟨h0, h1⟩ | ⟨g, cap, e, ho⟩
  · subst h1; exact CellsS.zero
  · injection e with e1 e2 e3
    subst e1
    have := ho.base_le
    have := ho.cellsS (S := off b wr) ⟨by omega, ho.lt⟩
    rw [Nat.mul_one] at this
    exact this
theorem NamI.lt (h : NamI G wr An nn cn f) : ∀ ad, An = some ad → ad.block < wr.heap.size := fun ad e => by
  rcases Own.made (F := fun j => .string (f j)) h.1 (fun j hj => by rw [Nat.mul_one] at hj; exact rowL_get _ _ j hj) with ⟨h0, h1⟩ | ⟨g, cap, e2, ho⟩
  · injection h0 with h0; rw [h0] at e; cases e
  · injection e2 with e1 _ _
    rw [e1] at e
    injection e with e
    rw [← e]
    exact ho.lt
/-- a name is appended: the list stands -/
theorem names_next {w7 : World} {g cap : Nat} {nm : ByteArray} {ys : Array Value} {t : TypeId} (hL : LisC G wr An Al m zs) (hN : NamI G wr An nn cn f) (hnm : nameB nm = true) (hgrow : (wr.alloc (.cells ys t)).grownBy w7 (Value.slice An nn cn).ownBlock)
    (hat : (Value.slice An nn cn).ownBlock = some g ∨ g = wr.heap.size + 1) (hown : w7.ownsRow (G + 1) 9 1 (.slice (some ⟨g, 0, none⟩) (nn + 1) cap) (nn + 1) (rowL nn (fun i => .string (f i)) ++ [.string nm])) :
    LisC G w7 (some ⟨g, 0, none⟩) Al m zs ∧ NamI G w7 (some ⟨g, 0, none⟩) (nn + 1) cap (updN f nn nm) := by
  have hgs := hgrow.size
  have hal : (wr.alloc (.cells ys t)).heap.size = wr.heap.size + 1 := by simp
  have hq : ∀ q, (Value.slice An nn cn).ownBlock = some q → q < wr.heap.size ∧ ∃ a, An = some a ∧ a.block = q := fun q hq => by
    obtain ⟨cap, e, _⟩ := own_form hN.1 hq
    injection e with e1
    exact ⟨(own_lt hN.1 hq).1, _, e1, rfl⟩
  have hk : ∀ i o, aS G G An wr i → w7.cell? ⟨i, o, none⟩ = wr.cell? ⟨i, o, none⟩ := fun i o hi => by
    have h1 := hi.2.2.1
    have h2 : (Value.slice An nn cn).ownBlock ≠ some i := fun h => by obtain ⟨_, a, ha, hb⟩ := hq i h; exact hi.2.2.2 a ha hb.symm
    rw [World.cell?_of_block (w := wr.alloc (.cells ys t)) (a := ⟨i, o, none⟩) (hgrow.block i (by omega) (fun e => h2 e.symm))]
    exact World.cell?_alloc_old wr _ _ (show i ≠ wr.heap.size by omega)
  have hS : ∀ i, aS G G An wr i → aS G G (some ⟨g, 0, none⟩) w7 i := fun i hi => ⟨hi.1, hi.2.1, by have := hi.2.2.1; omega, fun a ha h => by
    injection ha with ha
    subst ha
    simp only at h
    rcases hat with h1 | h1
    · obtain ⟨_, a, ha, hb⟩ := hq g h1
      exact hi.2.2.2 a ha (by rw [hb]; exact h)
    · have := hi.2.2.1; omega⟩
  refine ⟨⟨hL.1.keep hk hS, fun i hi => clQ_moves _ _ _ _ _ (hL.2 i hi) hk hS⟩, ?_, fun i hi => ?_⟩
  · have : rowL nn (fun i => Value.string (f i)) ++ [.string nm] = rowL (nn + 1) fun i => .string (updN f nn nm i) := by
      rw [← rowL_snoc]
      congr 1
      · exact List.map_congr_left fun j hj => by rw [updN_lt (by have := List.mem_range.1 hj; omega)]
      · rw [updN_at]
    rw [← this]
    exact hown
  · by_cases e : i = nn
    · rw [e, updN_at]; exact hnm
    · rw [updN_lt (by omega)]; exact hN.2 i (by omega)
theorem LisC.madeL {w : World} {p : ByteArray} {N t c : Nat} {κ : Nat → Nat} (h : LisC G wr An Al m zs) (hG : w.heap.size = G) (hm : 1 ≤ m ∧ m ≤ N + 1) (hu : upN p t m zs κ) (ht : t ≤ N + 1) (hk : Keeps b w wr) (hd : IsDeck wr b) : MadeL p N b w (.returned (.slice Al m c)) wr := by
  have hS : ∀ i, aS G G An wr i → (w.heap.size ≤ i ∧ i < wr.heap.size) := fun i hi => ⟨by have := hi.1; omega, hi.2.2.1⟩
  exact ⟨Al, m, c, zs, κ, rfl, hm, h.1.keep (fun _ _ _ => rfl) hS, fun i hi => clQ_moves _ _ _ _ _ (h.2 i hi) (fun _ _ _ => rfl) hS, hu.more ht, hk, hd⟩
end
theorem cl10_get (x : Cl) (a : WA) : ∀ j, j < 10 → ((x.cells a).toList)[j]? = some (clC (x, a) j) := fun j hj => Cl.cells_get x a j hj

def trueE : Ex := .mk 1 { data := #[] } 0 (fun _ => { data := #[] }) 0 0 0 fun _ => .bot
theorem trueE_ok : trueE.ok :=
  ⟨by decide, by decide, ⟨1, rfl, by omega, by unfold tLo tHi; rw [if_neg (by omega), if_neg (by omega), if_neg (by omega), if_neg (by omega)]; omega, by rw [if_neg (by decide)]; exact no_name, rfl, rfl, rfl⟩, fun i hi => by omega⟩
def trueC (x : Cl) : Cl := ⟨x.kind, x.name, trueE, x.n, x.us, x.amt⟩
def trueW (a : WA) : WA := ⟨⟨none, 0, none, 0⟩, a.A, a.c⟩
theorem trueC_ok {x : Cl} (h : x.ok) : (trueC x).ok := ⟨h.1, h.2.1, trueE_ok, h.2.2.2⟩
theorem trueC_in {S : Nat → Prop} {w : World} {x : Cl} {a : WA} (h : ClIn S w x a) : ClIn S w (trueC x) (trueW a) :=
  ⟨⟨⟨by unfold big; omega, Nat.le_refl _⟩, ⟨Nat.zero_le _, Nat.le_refl _⟩, CellsS.zero, fun _ => ⟨none, 0, none, 0⟩, CellsS.zero, fun i hi => by omega⟩, h.2⟩
abbrev trueR : List Value := [.int .i64 1, .string { data := #[] }, .slice none 0 0, .int .i64 0, .int .i64 0, .slice none 0 0]
theorem trueC_has {w : World} {H : Nat} {x : Cl} {a : WA} {t : TypeId} (h : Has w H (x.cells a) t) : Has (w.setCells H 2 trueR) H ((trueC x).cells (trueW a)) t := by
  obtain ⟨x0, x1, x2, x3, x4, x5, hcs, _⟩ := Cl.cells_ex x a
  rw [hcs] at h
  exact h.put6
theorem lis_one {G H : Nat} {w : World} {x : Cl} {a : WA} {t : TypeId} (h : Has w H (x.cells a) t) (hin : ClIn (fun i => G < i ∧ i ≠ H ∧ i < w.heap.size) w x a) (hok : x.ok) (hG : G < H) : LisC G w none (some ⟨H, 0, none⟩) 1 fun _ => (x, a) := by
  have hlt := h.lt
  refine ⟨fun _ => ⟨H, 0, rfl, ⟨hG, by omega, hlt, fun a e => by cases e⟩, fun j hj => ?_⟩, fun i hi => ⟨hin.keep (fun _ _ _ => rfl) (fun i hi => ⟨hi.1, by omega, hi.2.2, fun a e => by cases e⟩), hok⟩⟩
  rw [Nat.zero_add, h.cell, ← Array.getElem?_toList, cl10_get x a j (by omega)]
  unfold rowF
  rw [Nat.mod_eq_of_lt (by omega)]
/-- a block that is written whole -/
theorem Has.whole {w : World} {H : Nat} {cs ds : Array Value} {t : TypeId} (h : Has w H cs t) (hs : ds.size = cs.size) : Has (w.setCells H 0 ds.toList) H ds t := by
  obtain ⟨cur, h1, h2, h3⟩ := setCells_block H t ds.toList 0 cs w h (by simp [hs])
  have : cur = ds := by
    apply Array.ext_getElem?
    intro j
    rw [h3 j]
    by_cases c : j < ds.size
    · rw [if_pos (by simp; exact c), Nat.sub_zero, Array.getElem?_toList]
    · rw [if_neg (by simp; omega), Array.getElem?_eq_none (by omega), Array.getElem?_eq_none (by omega)]
  subst this
  exact h1

def ClPtr (w : World) (v : Value) (cs : Array Value) : Prop := ∃ b o, v = .pointer (some ⟨b, o, none⟩) ∧ w.rangeAt b o cs.toList ∧ cs.size = 10
def clCells (w : World) (v : Value) : Array Value := match v with
  | .pointer (some a) => #[(w.cell? ⟨a.block, a.off, none⟩).getD undef, (w.cell? ⟨a.block, a.off + 1, none⟩).getD undef, (w.cell? ⟨a.block, a.off + 2, none⟩).getD undef, (w.cell? ⟨a.block, a.off + 3, none⟩).getD undef, (w.cell? ⟨a.block, a.off + 4, none⟩).getD undef, (w.cell? ⟨a.block, a.off + 5, none⟩).getD undef, (w.cell? ⟨a.block, a.off + 6, none⟩).getD undef, (w.cell? ⟨a.block, a.off + 7, none⟩).getD undef, (w.cell? ⟨a.block, a.off + 8, none⟩).getD undef, (w.cell? ⟨a.block, a.off + 9, none⟩).getD undef]
  | _ => #[]
theorem ClPtr.cells {w : World} {v : Value} {cs : Array Value} (h : ClPtr w v cs) : clCells w v = cs := by
  obtain ⟨b, o, rfl, hr, hs⟩ := h
  have hg : ∀ j (hj : j < 10), (w.cell? ⟨b, o + j, none⟩).getD undef = cs[j] := fun j hj => by
    rw [hr j cs[j] (by simp)]
    rfl
  apply Array.ext
  · rw [hs]; rfl
  · intro i h1 h2
    rw [hs] at h2
    match i, h2 with
    | 0, _ => exact hg 0 (by omega)
    | 1, _ => exact hg 1 (by omega)
    | 2, _ => exact hg 2 (by omega)
    | 3, _ => exact hg 3 (by omega)
    | 4, _ => exact hg 4 (by omega)
    | 5, _ => exact hg 5 (by omega)
    | 6, _ => exact hg 6 (by omega)
    | 7, _ => exact hg 7 (by omega)
    | 8, _ => exact hg 8 (by omega)
    | 9, _ => exact hg 9 (by omega)
    | i + 10, h => omega
theorem rowC_one {m : Nat} {zs : Nat → Cl × WA} : ∀ u ∈ rowL (m * 10) (rowF 10 clC zs), u.oneCell' = true := fun u hu => by
  obtain ⟨j, _, rfl⟩ := List.mem_map.1 hu
  exact Cl.cell_one _ _ _
theorem rowC_src {w : World} {m bl ol : Nat} {zs : Nat → Cl × WA} (hc : ∀ j, j < m * 10 → w.cell? ⟨bl, ol + j, none⟩ = some (rowF 10 clC zs j)) (hbl : bl < w.heap.size) : ∀ V, Below w.heap.size w V → ∀ j u, (rowL (m * 10) (rowF 10 clC zs))[j]? = some u → V.cell? ((⟨bl, ol, none⟩ : Addr).add j) = some u := fun V hb j u hu => by
  have hj : j < m * 10 := by rw [← rowL_length (m * 10) (rowF 10 clC zs)]; exact (List.getElem?_eq_some_iff.1 hu).1
  rw [Addr.add_mid, hb.cell (p := ⟨bl, ol + j, none⟩) hbl, hc j hj, ← hu, rowL_get _ _ j hj]
theorem cl_ptr {w : World} {H : Nat} {cs : Array Value} {t : TypeId} (h : Has w H cs t) (hs : cs.size = 10) : (∃ c, ClPtr w (.pointer (some ⟨H, 0, none⟩)) c) ∧ clCells w (.pointer (some ⟨H, 0, none⟩)) = cs := by
  have hp : ClPtr w (.pointer (some ⟨H, 0, none⟩)) cs := ⟨H, 0, rfl, fun j v hj => by rw [Nat.zero_add, h.cell, ← Array.getElem?_toList]; exact hj, hs⟩
  exact ⟨⟨_, hp⟩, hp.cells⟩
theorem step_store_mid {P : Program} {ops : Array Oper} {o : Oper} {a : Act} {w : World} {K : Act → World → Prop} {Q : Exit → Act → World → Prop} {E : Prop} (hgd : o.guard = none) (ty : TypeId) (x y : Operand) (ho : o.op = .store ty x y)
    (b off : Nat) (cells : Array Value) (hx : a.eval x = .pointer (some ⟨b, off, none⟩)) (hy : a.eval y = .agg cells)
    (ht : w.there b off cells.size) (hi : (P.info? ty).map (·.size) = some cells.size) (h1 : cells.toList.all (·.oneCell') = true)
    (h : K (a.put o.dst undef) (w.setCells b off cells.toList)) : if Region.wanted o (yielded ops a.tmps) = true then Oper.wp P o a w K Q else E := by
  have hw : Region.wanted o (yielded ops a.tmps) = true := by simp [Region.wanted, hgd]
  rw [if_pos hw]
  exact wp_store_mid ty x y ho b off cells hx hy ht hi (by rw [← Array.all_toList]; exact h1) h
theorem exec_load_cl {ev : Operand → Value} {d : Option Tmp} {x : Operand} {ty : TypeId} {pos : String} {af : Array Edge} {g : Option (Nat × Bool)} {w : World} (h : ∃ cs, ClPtr w (ev x) cs) :
    (execOp ev { dst := d, op := .load 46 x, type := ty, pos := pos, after := af, guard := g }).run Tryz.prog w = .ok (.value (.agg (clCells w (ev x)))) w := by
  obtain ⟨cs, hh⟩ := h
  rw [hh.cells]
  obtain ⟨b, o, hv, hb, hc⟩ := hh
  unfold execOp
  simp only [hv, Instr.loadAt, Instr.sureAddr, Sem.run_bind, Sem.run_pure, Result.andThen_ok, run_loadVar_mid w b o 46 cs.toList _ hb Tryz.underlying46 rfl (by rw [Array.length_toList, hc]; exact cl_info), Array.toArray_toList]
end Go.Proofs.YtlbkhhbbkedhkaaGreatDoor
