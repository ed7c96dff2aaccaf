/- Lists of names: all names, all different; of the program and of the reference. One node of an expression: syntax.node and the reference's node. The size and the depth of an expression. No program in sight. -/
import Derived.Test.YtlbkhhbbkedhkaaGreatDoorMa02
import Derived.Test.YtlbkhhbbkedhkaaGreatDoorMa03
import Derived.Test.YtlbkhhbbkedhkaaGreatDoorShelf
import Derived.Lib.SlicesS
import Derived.Deep.QuietTactic
import Derived.BigQuiet
import Derived.Deep.DeepCutAuto
import Derived.Deep.CutBlock
import Derived.Deep.MidRow
namespace Go.Proofs.YtlbkhhbbkedhkaaGreatDoor
open Go.RowKit
set_option linter.unusedVariables false

/-- a truth about P -/
def IffPost (P : Prop) (w : World) (e : Ending) (w' : World) : Prop := ∃ b : Bool, e = .returned (.bool b) ∧ (b = true ↔ P) ∧ Below w.heap.size w w'
theorem IffPost.congr {P Q : Prop} {w w' : World} {e : Ending} (h : IffPost P w e w') (hq : P ↔ Q) : IffPost Q w e w' := by
  obtain ⟨b, h1, h2, h3⟩ := h
  exact ⟨b, h1, h2.trans hq, h3⟩
theorem IffPost.yes {P : Prop} {w w' : World} (h : P) (hb : Below w.heap.size w w') : IffPost P w (.returned (.bool true)) w' := ⟨true, rfl, ⟨fun _ => h, fun _ => rfl⟩, hb⟩
theorem IffPost.no {P : Prop} {w w' : World} (h : ¬ P) (hb : Below w.heap.size w w') : IffPost P w (.returned (.bool false)) w' := ⟨false, rfl, ⟨fun c => (by cases c), fun c => absurd c h⟩, hb⟩

theorem bytes_eq {a b : ByteArray} : (a.toList == b.toList) = true ↔ a = b := by
  constructor
  · intro h
    have h1 := eq_of_beq h
    rw [ByteArray.toList_eq, ByteArray.toList_eq] at h1
    exact ByteArray.ext (Array.ext' h1)
  · rintro rfl
    simp
theorem bytes_ne {a b : ByteArray} (h : a ≠ b) : (a.toList == b.toList) = false := by
  rcases hq : (a.toList == b.toList) with _ | _
  · rfl
  · exact absurd (bytes_eq.1 hq) h

def namesP (n : Nat) (f : Nat → ByteArray) : Prop := ∀ i, i < n → nameB (f i) = true
def distP (n : Nat) (f : Nat → ByteArray) : Prop := ∀ i, i < n → ∀ k, k < i → f i ≠ f k

section
variable {A : Option Addr} {n c : Nat} {f : Nat → ByteArray} {w : World}
theorem Strs.get {B j : Nat} (h : Strs w B A n f) (hj : j < n) : ∃ b o, A = some ⟨b, o, none⟩ ∧ b < B ∧ ∀ i, i < n → w.cell? ⟨b, o + i, none⟩ = some (.string (f i)) := by
  obtain ⟨b, o, e, hb, hc⟩ := Cells.plain h (by omega)
  exact ⟨b, o, e, hb, hc⟩
end

set_option maxHeartbeats 1000000 in
theorem rnames_any (A : Option Addr) (n c : Nat) (f : Nat → ByteArray) (w : World) (hn : n ≤ big) (h : Strs w w.heap.size A n f) : Calls Tryz.prog 46 #[.slice A n c] w (IffPost (namesP n f) w) := by
  have H := Lib.hid h
  unfold big at hn
  clear h
  go_enter Tryz.func46, Tryz.ntmps46
  go_wp2_with fail
  go_loopw [3] (fun i wr => wr = w ∧ ∃ k : Nat, k ≤ n ∧ i = .int .i64 k ∧ Hid (namesP k f)) (fun i _ => n - (intOf i).toNat)
  case atStart => exact ⟨rfl, 0, Nat.zero_le _, rfl, Lib.hid fun i hi => by omega⟩
  case round =>
    obtain ⟨rfl, k, hk, rfl, HK⟩ := hrel
    by_cases hlt : k < n
    · obtain ⟨b, o, rfl, _, hc⟩ := H.out.get hlt
      have hc0 := hc k hlt
      have hk0 : (0 : Int) ≤ k := by omega
      have hk1 : (k : Int) < n := by omega
      obtain ⟨s, hs⟩ : ∃ s, f k = s := ⟨_, rfl⟩
      rw [hs] at hc0
      have HS := Lib.hid hs
      clear hc hs
      cases hb : nameB s with
      | true =>
        go_wp2_with (first | (go_at_call 81; refine (rname_any _ _).mono ?_; rintro e w' ⟨rfl, rfl⟩))
        go_roundw
        case rel => exact ⟨by trivial, k + 1, by omega, by go_num, Lib.hid fun i hi => by
          by_cases e : i = k
          · rw [e, HS.out, hb]
          · exact HK.out i (by omega)⟩
        case measure => simp [intOf]; omega
      | false =>
        go_wp2_with (first | (go_at_call 81; refine (rname_any _ _).mono ?_; rintro e w' ⟨rfl, rfl⟩))
        go_ret
        exact IffPost.no (fun c => by have := c k hlt; rw [HS.out, hb] at this; cases this) (Below.refl _ _)
    · have hd : decide ((k : Int) < n) = false := by rw [decide_eq_false_iff_not]; omega
      go_wp2_with fail
      go_ret
      exact IffPost.yes (fun i hi => HK.out i (by omega)) (Below.refl _ _)

set_option maxHeartbeats 1000000 in
theorem rdistinct_any (A : Option Addr) (n c : Nat) (f : Nat → ByteArray) (w : World) (hn : n ≤ big) (h : Strs w w.heap.size A n f) : Calls Tryz.prog 47 #[.slice A n c] w (IffPost (distP n f) w) := by
  have H := Lib.hid h
  unfold big at hn
  clear h
  go_enter Tryz.func47, Tryz.ntmps47
  go_wp2_with fail
  go_loopw [3] (fun i wr => (∃ q, wr = w.drewN q) ∧ ∃ k : Nat, k ≤ n ∧ i = .int .i64 k ∧ Hid (distP k f)) (fun i _ => n - (intOf i).toNat)
  case atStart => exact ⟨⟨0, rfl⟩, 0, Nat.zero_le _, rfl, Lib.hid fun i hi => by omega⟩
  case round =>
    obtain ⟨⟨q, rfl⟩, k, hk, rfl, HK⟩ := hrel
    by_cases hlt : k < n
    · have hk0 : (0 : Int) ≤ k := by omega
      have hk1 : (k : Int) < n := by omega
      go_wp2_with fail
      go_loopw [4] (fun i wr => (∃ q, wr = w.drewN q) ∧ ∃ j : Nat, j ≤ k ∧ i = .int .i64 j ∧ Hid (∀ t, t < j → f k ≠ f t)) (fun i _ => k - (intOf i).toNat)
      case atStart => exact ⟨⟨q, rfl⟩, 0, Nat.zero_le _, rfl, Lib.hid fun i hi => by omega⟩
      case round =>
        obtain ⟨⟨p, rfl⟩, j, hj, rfl, HJ⟩ := hrel
        by_cases hjl : j < k
        · obtain ⟨b, o, rfl, _, hc⟩ := H.out.get hlt
          have hc0 := hc k hlt
          have hc1 := hc j (by omega)
          have hj0 : (0 : Int) ≤ j := by omega
          have hj1 : (j : Int) < k := by omega
          have hj2 : (j : Int) < n := by omega
          obtain ⟨s, hs⟩ : ∃ s, f k = s := ⟨_, rfl⟩
          obtain ⟨r, hr⟩ : ∃ s, f j = s := ⟨_, rfl⟩
          rw [hs] at hc0
          rw [hr] at hc1
          have HS := Lib.hid hs
          have HR := Lib.hid hr
          clear hc hs hr
          by_cases heq : s = r
          · have he := bytes_eq.2 heq
            go_wp2_with fail
            go_quiet (fail)
            go_wp2_with fail
            go_ret
            exact IffPost.no (fun c => c k hlt j hjl (by rw [HS.out, HR.out, heq])) (below_drewN (below_drewN (Below.refl _ _) _) _)
          · have he := bytes_ne heq
            go_wp2_with fail
            go_quiet (fail)
            go_wp2_with fail
            go_roundw
            case rel => exact ⟨⟨_, rfl⟩, j + 1, by omega, by go_num, Lib.hid fun t ht => by
              by_cases e : t = j
              · rw [e, HS.out, HR.out]; exact heq
              · exact HJ.out t (by omega)⟩
            case measure => simp [intOf]; omega
        · have hjk : j = k := by omega
          subst hjk
          have hd : decide ((j : Int) < j) = false := by rw [decide_eq_false_iff_not]; omega
          go_wp2_with fail
          go_roundw
          case rel => exact ⟨⟨_, rfl⟩, j + 1, by omega, by go_num, Lib.hid fun i hi t ht => by
            by_cases e : i = j
            · subst e; exact HJ.out t ht
            · exact HK.out i (by omega) t ht⟩
          case measure => simp [intOf]; omega
    · have hd : decide ((k : Int) < n) = false := by rw [decide_eq_false_iff_not]; omega
      go_wp2_with fail
      go_ret
      exact IffPost.yes (fun i hi => HK.out i (by omega)) (below_drewN (Below.refl _ _) _)

theorem containsS_range {i : Nat} {f : Nat → ByteArray} {x : ByteArray} : Lib.containsS (((List.range i).map f).take i) x = true ↔ ∃ k, k < i ∧ f k = x := by
  rw [Lib.containsS_iff, List.take_of_length_le (by simp)]
  simp
def wordsP (n : Nat) (f : Nat → ByteArray) : Prop := (1 ≤ n ∧ n ≤ 12) ∧ namesP n f ∧ distP n f
set_option maxRecDepth 100000 in
set_option maxHeartbeats 2000000 in
theorem words_any (A : Option Addr) (n c : Nat) (f : Nat → ByteArray) (w : World) (hn : n ≤ big) (hcap : n ≤ c) (h : Strs w w.heap.size A n f) : Calls Tryz.prog 128 #[.slice A n c] w (IffPost (wordsP n f) w) := by
  have H := Lib.hid h
  unfold big at hn
  clear h
  by_cases h0 : n = 0
  · subst h0
    go_enter Tryz.func128, Tryz.ntmps128
    go_wp2_with fail
    go_ret
    exact IffPost.no (fun c => by have := c.1; omega) (Below.refl _ _)
  have h0' : ((n : Int) == 0) = false := by rw [beq_eq_false_iff_ne]; omega
  by_cases h12 : 12 < n
  · have h12' : (12 : Int) < n := by omega
    go_enter Tryz.func128, Tryz.ntmps128
    go_wp2_with fail
    go_ret
    exact IffPost.no (fun c => by have := c.1; omega) (Below.refl _ _)
  have h12' : (n : Int) ≤ 12 := by omega
  have hcap' : (n : Int) ≤ c := by omega
  go_enter Tryz.func128, Tryz.ntmps128
  go_wp2_with fail
  go_loopw [15] (fun i wr => wr = w ∧ ∃ k : Nat, k ≤ n ∧ i = .int .i64 k ∧ Hid (namesP k f ∧ distP k f)) (fun i _ => n - (intOf i).toNat)
  case atStart => exact ⟨rfl, 0, Nat.zero_le _, rfl, Lib.hid ⟨fun i hi => by omega, fun i hi => by omega⟩⟩
  case round =>
    obtain ⟨rfl, k, hk, rfl, HK⟩ := hrel
    by_cases hlt : k < n
    · obtain ⟨b, o, rfl, _, hc⟩ := H.out.get hlt
      have hc0 := hc k hlt
      have hk0 : (0 : Int) ≤ k := by omega
      have hk1 : (k : Int) < n := by omega
      have hk2 : (k : Int) ≤ c := by omega
      obtain ⟨s, hs⟩ : ∃ s, f k = s := ⟨_, rfl⟩
      rw [hs] at hc0
      have HS := Lib.hid hs
      have HCN : Hid (Calls Tryz.prog 69 #[.slice (some ⟨b, o, none⟩) k c, .string s] wr fun e w' => e = .returned (.bool (Lib.containsS (((List.range k).map f).take k) s)) ∧ w' = wr) :=
        Lib.hid (Tryz.slices_Contains_string b o k c ((List.range k).map f) s wr (by simp) (by omega) fun j hj => by
          have hj' : j < k := by simpa using hj
          have := hc j (by omega)
          rw [this]
          simp [List.getD, hj'])
      clear hc hs
      cases hb : nameB s with
      | true =>
        obtain ⟨q, hq⟩ : ∃ q, Lib.containsS (((List.range k).map f).take k) s = q := ⟨_, rfl⟩
        have HQ : Hid (q = true ↔ ∃ t, t < k ∧ f t = s) := Lib.hid (by rw [← hq]; exact containsS_range)
        rw [hq] at HCN
        clear hq
        cases q with
        | true =>
          go_wp2_with (first | (go_at_call 68; refine (name_any _ _).mono ?_; rintro e w' ⟨rfl, rfl⟩) | (go_at_call 69; refine HCN.out.mono ?_; rintro e w' ⟨rfl, rfl⟩))
          go_ret
          obtain ⟨t, ht, hts⟩ := HQ.out.1 (by trivial)
          exact IffPost.no (fun c => c.2.2 k hlt t ht (by rw [HS.out, hts])) (Below.refl _ _)
        | false =>
          go_wp2_with (first | (go_at_call 68; refine (name_any _ _).mono ?_; rintro e w' ⟨rfl, rfl⟩) | (go_at_call 69; refine HCN.out.mono ?_; rintro e w' ⟨rfl, rfl⟩))
          go_roundw
          case rel => exact ⟨by trivial, k + 1, by omega, by go_num, Lib.hid ⟨fun i hi => by
            by_cases e : i = k
            · rw [e, HS.out, hb]
            · exact HK.out.1 i (by omega), fun i hi t ht => by
            by_cases e : i = k
            · subst e
              rw [HS.out]
              exact fun c => by have := HQ.out.2 ⟨t, ht, c.symm⟩; cases this
            · exact HK.out.2 i (by omega) t ht⟩⟩
          case measure => simp [intOf]; omega
      | false =>
        go_wp2_with (first | (go_at_call 68; refine (name_any _ _).mono ?_; rintro e w' ⟨rfl, rfl⟩))
        go_ret
        exact IffPost.no (fun c => by have := c.2.1 k hlt; rw [HS.out, hb] at this; cases this) (Below.refl _ _)
    · have hd : decide ((k : Int) < n) = false := by rw [decide_eq_false_iff_not]; omega
      go_wp2_with fail
      go_ret
      exact IffPost.yes ⟨by omega, fun i hi => HK.out.1 i (by omega), fun i hi => HK.out.2 i (by omega)⟩ (Below.refl _ _)

/-- a number that is not too far off -/
def numP (n : Int) : Prop := -1000000000 ≤ n ∧ n ≤ 1000000000
theorem number_any (n : Int) (w : World) : Calls Tryz.prog 129 #[.int .i64 n] w fun e w' => e = .returned (.bool (decide (-1000000000 ≤ n ∧ n ≤ 1000000000))) ∧ w = w' := by
  by_cases h0 : -1000000000 ≤ n
  · by_cases h1 : n ≤ 1000000000
    · go_enter Tryz.func129, Tryz.ntmps129
      go_wp2
      go_ret
      exact ⟨by simp [h0, h1], rfl⟩
    · go_enter Tryz.func129, Tryz.ntmps129
      go_wp2
      go_ret
      exact ⟨by simp; omega, rfl⟩
  · go_enter Tryz.func129, Tryz.ntmps129
    go_wp2
    go_ret
    exact ⟨by simp; omega, rfl⟩
theorem far_any (n : Int) (w : World) : Calls Tryz.prog 112 #[.int .i64 n] w fun e w' => e = .returned (.bool (!decide (-1000000000 ≤ n ∧ n ≤ 1000000000))) ∧ w = w' := by
  by_cases h0 : n ≤ 1000000000
  · by_cases h1 : -1000000000 ≤ n
    · go_enter Tryz.func112, Tryz.ntmps112
      go_wp2
      go_ret
      exact ⟨by simp [h0, h1], rfl⟩
    · go_enter Tryz.func112, Tryz.ntmps112
      go_wp2
      go_ret
      exact ⟨by simp; omega, rfl⟩
  · go_enter Tryz.func112, Tryz.ntmps112
    go_wp2
    go_ret
    exact ⟨by simp; omega, rfl⟩
end Go.Proofs.YtlbkhhbbkedhkaaGreatDoor
namespace Go.Proofs.YtlbkhhbbkedhkaaGreatDoor
open Go.RowKit
set_option linter.unusedVariables false

theorem below_two (w : World) (o p : Obj) : Below w.heap.size w ((w.alloc o).alloc p) := ((Below.refl _ _).alloc (Nat.le_refl _) o).alloc (by simp) p
/-- the table of the operators: has it a name, how many arguments at least and at most -/
def tNm (op : Nat) : Bool := decide (op = 3 ∨ op = 4 ∨ op = 5)
def tLo (op : Nat) : Nat := if op = 6 then 1 else if op = 7 ∨ op = 8 then 2 else 0
def tHi (op : Nat) : Nat := if op = 6 then 1 else if op = 7 ∨ op = 8 then 300 else 0
/-- what of the table stands in memory -/
def Tab (w : World) : Prop := ∀ op, op < 9 → ∃ (s : ByteArray) (z : Int), w.cell? ⟨0, op * 5, none⟩ = some (.string s) ∧ w.cell? ⟨0, op * 5 + 1, none⟩ = some (.bool (tNm op)) ∧ w.cell? ⟨0, op * 5 + 2, none⟩ = some (.int .i64 (tLo op)) ∧
  w.cell? ⟨0, op * 5 + 3, none⟩ = some (.int .i64 (tHi op)) ∧ w.cell? ⟨0, op * 5 + 4, none⟩ = some (.int .i64 z)
theorem Tab.pos {w : World} (h : Tab w) : 0 < w.heap.size := by
  obtain ⟨s, z, h0, _⟩ := h 0 (by omega)
  exact cell_lt h0
theorem Tab.below {w w' : World} {B : Nat} (h : Tab w) (hb : Below B w w') (hB : 0 < B) : Tab w' := fun op ho => by
  obtain ⟨s, z, h0, h1, h2, h3, h4⟩ := h op ho
  exact ⟨s, z, by rw [hb.cell (by simpa using hB)]; exact h0, by rw [hb.cell (by simpa using hB)]; exact h1, by rw [hb.cell (by simpa using hB)]; exact h2, by rw [hb.cell (by simpa using hB)]; exact h3, by rw [hb.cell (by simpa using hB)]; exact h4⟩

/-- the fields of a node are those of its operator -/
def nodeF (op : Nat) (name : ByteArray) (nw : Nat) (ws : Nat → ByteArray) (lo hi : Int) : Prop :=
  (if tNm op = true then nameB name = true else name.toList = []) ∧ (if op = 4 then wordsP nw ws else nw = 0) ∧ (if op = 5 then numP lo ∧ numP hi ∧ lo ≤ hi else lo = 0 ∧ hi = 0)
def nodeQ : Ex → Prop
  | .bot => False
  | .mk op name nw ws lo hi na _ => ∃ o : Nat, op = o ∧ (1 ≤ o ∧ o ≤ 8) ∧ (tLo o ≤ na ∧ na ≤ tHi o) ∧ nodeF o name nw ws lo hi

set_option maxRecDepth 100000 in
set_option maxHeartbeats 4000000 in
theorem node_any (op : Int) (name : ByteArray) (nw : Nat) (ws : Nat → ByteArray) (lo hi : Int) (na : Nat) (xs : Nat → Ex) (a : EA) (w : World) (ht : Tab w) (h : ExAt w w.heap.size (.mk op name nw ws lo hi na xs) a) :
    Calls Tryz.prog 126 #[.agg (Ex.row op name nw lo hi na a)] w (IffPost (nodeQ (.mk op name nw ws lo hi na xs)) w) := by
  obtain ⟨⟨hnw, hcw⟩, ⟨hna, _⟩, hst, _⟩ := h
  have HST := Lib.hid hst
  have hbl : Below w.heap.size w (w.alloc (.cells (Ex.row op name nw lo hi na a) 43)) := (Below.refl _ _).alloc (Nat.le_refl _) _
  have HBL := Lib.hid hbl
  obtain ⟨Aw, cw, Aa, ca⟩ := a
  simp only at hcw HST
  unfold Ex.row at HBL ⊢
  simp only at HBL ⊢
  clear hst hbl
  unfold big at hnw hna
  by_cases h1 : op < 1
  · go_enter Tryz.func126, Tryz.ntmps126
    go_wp2_with fail
    go_ret
    exact IffPost.no (fun ⟨o, ho, hc, _⟩ => by omega) HBL.out
  by_cases h8 : 8 < op
  · go_enter Tryz.func126, Tryz.ntmps126
    go_wp2_with fail
    go_ret
    exact IffPost.no (fun ⟨o, ho, hc, _⟩ => by omega) HBL.out
  obtain ⟨o, rfl⟩ : ∃ o : Nat, op = o := ⟨op.toNat, by omega⟩
  have ho1 : (1 : Int) ≤ o := by omega
  have ho8 : (o : Int) ≤ 8 := by omega
  have hi0 : (0 : Int) ≤ o := by omega
  have hi9 : (o : Int) < 9 := by omega
  have hQ : nodeQ (.mk o name nw ws lo hi na xs) ↔ (tLo o ≤ na ∧ na ≤ tHi o) ∧ nodeF o name nw ws lo hi := by
    constructor
    · rintro ⟨o', h0, _, h2, h3⟩
      obtain rfl : o = o' := by omega
      exact ⟨h2, h3⟩
    · exact fun h => ⟨o, rfl, by omega, h.1, h.2⟩
  obtain ⟨s, z, c0, c1, c2, c3, c4⟩ := ht o (by omega)
  have hlt := ht.pos
  have hne : (0 : Nat) ≠ w.heap.size := by omega
  clear h1 h8 ht
  obtain ⟨nm, hnm⟩ : ∃ nm, tNm o = nm := ⟨_, rfl⟩
  obtain ⟨tl, htl⟩ : ∃ nm, tLo o = nm := ⟨_, rfl⟩
  obtain ⟨th, hth⟩ : ∃ nm, tHi o = nm := ⟨_, rfl⟩
  rw [hnm] at c1
  rw [htl] at c2
  rw [hth] at c3
  have HQ : Hid (nodeQ (.mk o name nw ws lo hi na xs) ↔ (tl ≤ na ∧ na ≤ th) ∧ (if nm = true then nameB name = true else name.toList = []) ∧ (if o = 4 then wordsP nw ws else nw = 0) ∧ (if o = 5 then numP lo ∧ numP hi ∧ lo ≤ hi else lo = 0 ∧ hi = 0)) := Lib.hid (by
    rw [← hnm, ← htl, ← hth]; exact hQ)
  clear hnm htl hth hQ
  obtain ⟨ND, hND⟩ : ∃ P, nodeQ (.mk o name nw ws lo hi na xs) = P := ⟨_, rfl⟩
  rw [hND] at HQ ⊢
  clear hND
  go_enter Tryz.func126, Tryz.ntmps126
  go_upto_region 4 with (fail)
  have HB2 := Lib.hid (below_two w (.cells #[.int .i64 o, .string name, .slice Aw nw cw, .int .i64 lo, .int .i64 hi, .slice Aa na ca] 43) (.cells #[.string s, .bool nm, .int .i64 tl, .int .i64 th, .int .i64 z] 155))
  have HE := Lib.hid ((Has.new w #[.int .i64 o, .string name, .slice Aw nw cw, .int .i64 lo, .int .i64 hi, .slice Aa na ca] 43).alloc (.cells #[.string s, .bool nm, .int .i64 tl, .int .i64 th, .int .i64 z] 155))
  have HO := Lib.hid (Has.new' (w.alloc (.cells #[.int .i64 o, .string name, .slice Aw nw cw, .int .i64 lo, .int .i64 hi, .slice Aa na ca] 43)) (w.heap.size + 1) #[.string s, .bool nm, .int .i64 tl, .int .i64 th, .int .i64 z] 155 (by simp))
  obtain ⟨W, hW⟩ : ∃ W, (w.alloc (.cells #[.int .i64 o, .string name, .slice Aw nw cw, .int .i64 lo, .int .i64 hi, .slice Aa na ca] 43)).alloc (.cells #[.string s, .bool nm, .int .i64 tl, .int .i64 th, .int .i64 z] 155) = W := ⟨_, rfl⟩
  rw [hW] at HB2 HE HO ⊢
  clear hW c0 c1 c2 c3 c4 hlt hne HBL
  obtain ⟨e0, e1, e2⟩ := HE.out.rules
  obtain ⟨g0, g1, g2⟩ := HO.out.rules
  by_cases hlo : na < tl
  · have hlo' : (na : Int) < tl := by omega
    go_wp2_with fail
    go_ret
    exact IffPost.no (fun c => by have := (HQ.out.1 c).1; omega) HB2.out
  have hlo' : (tl : Int) ≤ na := by omega
  by_cases hhi : th < na
  · have hhi' : (th : Int) < na := by omega
    go_wp2_with fail
    go_ret
    exact IffPost.no (fun c => by have := (HQ.out.1 c).1; omega) HB2.out
  have hhi' : (na : Int) ≤ th := by omega
  have HN : Hid (ND → (if nm = true then nameB name = true else name.toList = [])) := Lib.hid fun c => (HQ.out.1 c).2.1
  have HF : Hid ((if nm = true then nameB name = true else name.toList = []) → (ND ↔ (if o = 4 then wordsP nw ws else nw = 0) ∧ (if o = 5 then numP lo ∧ numP hi ∧ lo ≤ hi else lo = 0 ∧ hi = 0))) := Lib.hid fun c => ⟨fun h => (HQ.out.1 h).2.2, fun h => HQ.out.2 ⟨by omega, c, h⟩⟩
  clear HQ
  by_cases hN : (if nm = true then nameB name = true else name.toList = [])
  case neg =>
    have hno : ¬ ND := fun c => hN (HN.out c)
    have HNO := Lib.hid hno
    clear hno
    cases nm with
    | true =>
      have hb : nameB name = false := by rcases hq : nameB name with _ | _; (rfl); (exact absurd (by rw [if_pos rfl]; exact hq) hN)
      clear hN HF HN
      go_wp2_with (first | (go_at_call 68; refine (name_any _ _).mono ?_; rintro e w' ⟨rfl, rfl⟩))
      go_ret
      exact IffPost.no HNO.out HB2.out
    | false =>
      have hb : (name.toList == []) = false := by rw [beq_eq_false_iff_ne]; intro hq; exact hN (by rw [if_neg (by simp)]; exact hq)
      clear hN HF HN
      go_wp2_with fail
      go_ret
      exact IffPost.no HNO.out HB2.out
  case pos =>
    replace HF := Lib.hid (HF.out hN)
    clear HN
    have hcase : (nm = true ∧ nameB name = true) ∨ (nm = false ∧ (name.toList == []) = true) := by
      cases nm with
      | true =>
        rw [if_pos rfl] at hN
        exact .inl ⟨rfl, hN⟩
      | false =>
        rw [if_neg (by simp)] at hN
        exact .inr ⟨rfl, by rw [hN]; rfl⟩
    clear hN
    rcases hcase with ⟨rfl, hb⟩ | ⟨rfl, hb⟩
    all_goals
      go_upto_region 8 with (first | (go_at_call 68; refine (name_any _ _).mono ?_; rintro e w' ⟨rfl, rfl⟩))
      clear hb
      by_cases h4 : o = 4
      · have h4' : ((o : Int) == 4) = true := by rw [h4]; rfl
        have h5' : ((o : Int) == 5) = false := by rw [h4]; rfl
        have HG : Hid (ND ↔ wordsP nw ws ∧ (lo = 0 ∧ hi = 0)) := Lib.hid (by have := HF.out; rwa [if_pos h4, if_neg (by omega)] at this)
        clear HF h4
        go_wp2_with fail
        have hpw : Strs W W.heap.size Aw nw ws := (Cells.below HST.out HB2.out).mono HB2.out.size
        refine (words_any Aw nw cw ws _ (by unfold big; omega) hcw hpw).mono ?_
        rintro e w4 ⟨b, rfl, hb, hb4⟩
        replace HE := Lib.hid (HE.out.below hb4 e2)
        replace HB2 : Hid (Below w.heap.size w w4) := Lib.hid (HB2.out.trans (hb4.mono HB2.out.size))
        have HWD := Lib.hid hb
        clear hb hb4 hpw e0 e1 g0 g1 g2 HO
        obtain ⟨e0, e1, e2⟩ := HE.out.rules
        cases b with
        | false =>
          go_wp2_with fail
          go_ret
          exact IffPost.no (fun c => by have := HWD.out.2 (HG.out.1 c).1; simp at this) HB2.out
        | true =>
          have HG2 : Hid (ND ↔ lo = 0 ∧ hi = 0) := Lib.hid ⟨fun c => (HG.out.1 c).2, fun c => HG.out.2 ⟨HWD.out.1 rfl, c⟩⟩
          clear HG HWD
          by_cases hl : lo = 0
          · have hl' : (lo == 0) = true := by rw [hl]; rfl
            by_cases hh : hi = 0
            · have hh' : (hi == 0) = true := by rw [hh]; rfl
              go_wp2_with fail
              go_ret
              exact IffPost.yes (HG2.out.2 ⟨hl, hh⟩) HB2.out
            · have hh' : (hi == 0) = false := by rw [beq_eq_false_iff_ne]; exact hh
              go_wp2_with fail
              go_ret
              exact IffPost.no (fun c => hh (HG2.out.1 c).2) HB2.out
          · have hl' : (lo == 0) = false := by rw [beq_eq_false_iff_ne]; exact hl
            go_wp2_with fail
            go_ret
            exact IffPost.no (fun c => hl (HG2.out.1 c).1) HB2.out
      · have h4' : ((o : Int) == 4) = false := by rw [beq_eq_false_iff_ne]; omega
        have HG : Hid (ND ↔ nw = 0 ∧ (if o = 5 then numP lo ∧ numP hi ∧ lo ≤ hi else lo = 0 ∧ hi = 0)) := Lib.hid (by have := HF.out; rwa [if_neg h4] at this)
        clear HF h4
        by_cases hw : 0 < nw
        · have hw' : (0 : Int) < nw := by omega
          go_wp2_with fail
          go_ret
          exact IffPost.no (fun c => by have := (HG.out.1 c).1; omega) HB2.out
        have hw' : (nw : Int) ≤ 0 := by omega
        by_cases h5 : o = 5
        · have h5' : ((o : Int) == 5) = true := by rw [h5]; rfl
          have HG2 : Hid (ND ↔ numP lo ∧ numP hi ∧ lo ≤ hi) := Lib.hid (by have := HG.out; rw [if_pos h5] at this; exact ⟨fun c => (this.1 c).2, fun c => this.2 ⟨by omega, c⟩⟩)
          clear HG h5 hw
          obtain ⟨x, hx⟩ : ∃ x, decide (-1000000000 ≤ lo ∧ lo ≤ 1000000000) = x := ⟨_, rfl⟩
          obtain ⟨y, hy⟩ : ∃ x, decide (-1000000000 ≤ hi ∧ hi ≤ 1000000000) = x := ⟨_, rfl⟩
          have HX : Hid (x = true ↔ numP lo) := Lib.hid (by rw [← hx, decide_eq_true_iff]; rfl)
          have HY : Hid (y = true ↔ numP hi) := Lib.hid (by rw [← hy, decide_eq_true_iff]; rfl)
          have CX : Hid (∀ W, Calls Tryz.prog 129 #[.int .i64 lo] W fun e w' => e = .returned (.bool x) ∧ W = w') := Lib.hid fun W => by rw [← hx]; exact number_any lo W
          have CY : Hid (∀ W, Calls Tryz.prog 129 #[.int .i64 hi] W fun e w' => e = .returned (.bool y) ∧ W = w') := Lib.hid fun W => by rw [← hy]; exact number_any hi W
          clear hx hy
          cases x with
          | false =>
            go_wp2_with (first | (go_at_call 129; refine (CX.out _).mono ?_; rintro e w' ⟨rfl, rfl⟩))
            go_ret
            exact IffPost.no (fun c => by have := HX.out.2 (HG2.out.1 c).1; simp at this) HB2.out
          | true =>
            cases y with
            | false =>
              go_wp2_with fail
              refine (CX.out _).mono ?_
              rintro e w' ⟨rfl, rfl⟩
              go_wp2_with fail
              refine (CY.out _).mono ?_
              rintro e w' ⟨rfl, rfl⟩
              go_wp2_with fail
              go_ret
              exact IffPost.no (fun c => by have := HY.out.2 (HG2.out.1 c).2.1; simp at this) HB2.out
            | true =>
              by_cases hle : lo ≤ hi
              · go_wp2_with fail
                refine (CX.out _).mono ?_
                rintro e w' ⟨rfl, rfl⟩
                go_wp2_with fail
                refine (CY.out _).mono ?_
                rintro e w' ⟨rfl, rfl⟩
                go_wp2_with fail
                go_ret
                exact ⟨_, rfl, by simp; exact HG2.out.2 ⟨HX.out.1 (by trivial), HY.out.1 (by trivial), hle⟩, HB2.out⟩
              · go_wp2_with fail
                refine (CX.out _).mono ?_
                rintro e w' ⟨rfl, rfl⟩
                go_wp2_with fail
                refine (CY.out _).mono ?_
                rintro e w' ⟨rfl, rfl⟩
                go_wp2_with fail
                go_ret
                exact ⟨_, rfl, by simp; exact ⟨fun h => (by omega), fun c => (HG2.out.1 c).2.2⟩, HB2.out⟩
        · have h5' : ((o : Int) == 5) = false := by rw [beq_eq_false_iff_ne]; omega
          have HG2 : Hid (ND ↔ lo = 0 ∧ hi = 0) := Lib.hid (by have := HG.out; rw [if_neg h5] at this; exact ⟨fun c => (this.1 c).2, fun c => this.2 ⟨by omega, c⟩⟩)
          clear HG h5 hw
          by_cases hl : lo = 0
          · have hl' : (lo == 0) = true := by rw [hl]; rfl
            by_cases hh : hi = 0
            · have hh' : (hi == 0) = true := by rw [hh]; rfl
              go_wp2_with fail
              go_ret
              exact IffPost.yes (HG2.out.2 ⟨hl, hh⟩) HB2.out
            · have hh' : (hi == 0) = false := by rw [beq_eq_false_iff_ne]; exact hh
              go_wp2_with fail
              go_ret
              exact IffPost.no (fun c => hh (HG2.out.1 c).2) HB2.out
          · have hl' : (lo == 0) = false := by rw [beq_eq_false_iff_ne]; exact hl
            go_wp2_with fail
            go_ret
            exact IffPost.no (fun c => hl (HG2.out.1 c).1) HB2.out
end Go.Proofs.YtlbkhhbbkedhkaaGreatDoor
namespace Go.Proofs.YtlbkhhbbkedhkaaGreatDoor
open Go.RowKit
set_option linter.unusedVariables false

def sumN (f : Nat → Nat) : Nat → Nat
  | 0 => 0
  | n + 1 => sumN f n + f n
def maxN (f : Nat → Nat) : Nat → Nat
  | 0 => 0
  | n + 1 => max (maxN f n) (f n)
theorem sumN_le {f : Nat → Nat} {k n : Nat} (h : k < n) : sumN f k + f k ≤ sumN f n := by
  induction n with
  | zero => omega
  | succ n ih =>
    rw [sumN]
    by_cases e : k = n
    · subst e; omega
    · have := ih (by omega); omega
theorem maxN_le {f : Nat → Nat} {k n : Nat} (h : k < n) : f k ≤ maxN f n := by
  induction n with
  | zero => omega
  | succ n ih =>
    rw [maxN]
    by_cases e : k = n
    · subst e; omega
    · have := ih (by omega); omega
theorem maxN_lub {f : Nat → Nat} {m n : Nat} (h : ∀ k, k < n → f k ≤ m) : maxN f n ≤ m := by
  induction n with
  | zero => simp [maxN]
  | succ n ih =>
    rw [maxN]
    have h1 := ih fun k hk => h k (by omega)
    have h2 := h n (by omega)
    omega
def Ex.size : Ex → Nat
  | .bot => 1
  | .mk _ _ _ _ _ _ na xs => 1 + sumN (fun i => (xs i).size) na
def Ex.depth : Ex → Nat
  | .bot => 1
  | .mk _ _ _ _ _ _ na xs => 1 + maxN (fun i => (xs i).depth) na
def Ex.all (p : Ex → Prop) : Ex → Prop
  | .bot => False
  | .mk op name nw ws lo hi na xs => p (.mk op name nw ws lo hi na xs) ∧ ∀ i, i < na → (xs i).all p
/-- a valid expression -/
def Ex.ok (e : Ex) : Prop := e.size ≤ 300 ∧ e.depth ≤ 16 ∧ e.all nodeQ

theorem Ex.cells_size (e : Ex) (a : EA) : (e.cells a).size = 6 := by cases e <;> rfl
theorem Ex.cells_one (e : Ex) (a : EA) : (e.cells a).toList.all (·.oneCell') = true := by cases e <;> rfl
theorem Ex.cells_get (e : Ex) (a : EA) (k : Nat) (hk : k < 6) : (e.cells a).toList[k]? = some (e.cell a k) := by
  cases e
  all_goals
    match k, hk with
    | 0, _ | 1, _ | 2, _ | 3, _ | 4, _ | 5, _ => rfl
    | k + 6, h => omega
theorem Ex.range {w : World} {b o : Nat} {e : Ex} {a : EA} (h : ∀ k, k < 6 → w.cell? ⟨b, o + k, none⟩ = some (e.cell a k)) : w.rangeAt b o (e.cells a).toList := fun k v hk => by
  have h6 : k < 6 := by
    rcases Nat.lt_or_ge k 6 with h | h
    · exact h
    · rw [List.getElem?_eq_none (by rw [Array.length_toList, Ex.cells_size]; exact h)] at hk; cases hk
  rw [Ex.cells_get e a k h6] at hk
  injection hk with hk
  rw [← hk]
  exact h k h6
theorem ExAt.args {w : World} {B : Nat} {op : Int} {name : ByteArray} {nw : Nat} {ws : Nat → ByteArray} {lo hi : Int} {na : Nat} {xs : Nat → Ex} {a : EA} (h : ExAt w B (.mk op name nw ws lo hi na xs) a) :
    ∃ P : Nat → EA, ∀ i, i < na → ExAt w B (xs i) (P i) ∧ ∃ b o, a.Aa = some ⟨b, o, none⟩ ∧ b < B ∧ w.rangeAt b (o + i * 6) ((xs i).cells (P i)).toList := by
  obtain ⟨_, _, _, P, hc, he⟩ := h
  refine ⟨P, fun i hi => ⟨he i hi, ?_⟩⟩
  obtain ⟨b, o, e, hb, hcc⟩ := Cells.elem (F := fun i k => (xs i).cell (P i) k) (by omega) hc hi
  exact ⟨b, o, e, hb, Ex.range hcc⟩
set_option maxRecDepth 100000 in
theorem ex_info : (Tryz.prog.info? 43).map (·.size) = some 6 := by kernel_rfl
end Go.Proofs.YtlbkhhbbkedhkaaGreatDoor
