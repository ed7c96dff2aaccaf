/- The reference's node. The reference's Expr: the same expressions are valid. -/
import Derived.Test.YtlbkhhbbkedhkaaGreatDoorMa04
import Derived.Deep.DeepCutAuto
import Derived.Deep.CutBlock
import Derived.Test.YtlbkhhbbkedhkaaGreatDoorMa05
namespace Go.Proofs.YtlbkhhbbkedhkaaGreatDoor
open Go.RowKit
set_option linter.unusedVariables false

def argP (o na : Nat) : Prop := if o = 6 then na = 1 else if o = 7 ∨ o = 8 then 2 ≤ na else na = 0
def nodeR : Ex → Prop
  | .bot => False
  | .mk op name nw ws lo hi na _ => ∃ o : Nat, op = o ∧ (1 ≤ o ∧ o ≤ 8) ∧ nodeF o name nw ws lo hi ∧ argP o na

set_option maxRecDepth 100000 in
set_option maxHeartbeats 8000000 in
theorem rnode_any (op : Int) (name : ByteArray) (nw : Nat) (ws : Nat → ByteArray) (lo hi : Int) (na : Nat) (xs : Nat → Ex) (a : EA) (w : World) (h : ExAt w w.heap.size (.mk op name nw ws lo hi na xs) a) :
    Calls Tryz.prog 124 #[.agg (Ex.row op name nw lo hi na a)] w (IffPost (nodeR (.mk op name nw ws lo hi na xs)) w) := by
  obtain ⟨⟨hnw, hcw⟩, ⟨hna, _⟩, hst, _⟩ := h
  have HST := Lib.hid hst
  obtain ⟨Aw, cw, Aa, ca⟩ := a
  simp only at hcw HST
  unfold Ex.row
  simp only
  clear hst
  unfold big at hnw hna
  by_cases h1 : op < 1
  · have h3 : (op == 3) = false := by rw [beq_eq_false_iff_ne]; omega
    have h4 : (op == 4) = false := by rw [beq_eq_false_iff_ne]; omega
    have h5 : (op == 5) = false := by rw [beq_eq_false_iff_ne]; omega
    go_enter Tryz.func124, Tryz.ntmps124
    go_wp2_with fail
    go_ret
    exact IffPost.no (fun ⟨o, ho, hc, _⟩ => by omega) ((Below.refl _ _).alloc (Nat.le_refl _) _)
  by_cases h8 : 8 < op
  · have h3 : (op == 3) = false := by rw [beq_eq_false_iff_ne]; omega
    have h4 : (op == 4) = false := by rw [beq_eq_false_iff_ne]; omega
    have h5 : (op == 5) = false := by rw [beq_eq_false_iff_ne]; omega
    go_enter Tryz.func124, Tryz.ntmps124
    go_wp2_with fail
    go_ret
    exact IffPost.no (fun ⟨o, ho, hc, _⟩ => by omega) ((Below.refl _ _).alloc (Nat.le_refl _) _)
  obtain ⟨o, rfl⟩ : ∃ o : Nat, op = o := ⟨op.toNat, by omega⟩
  have ho1 : (1 : Int) ≤ o := by omega
  have ho8 : (o : Int) ≤ 8 := by omega
  have hQ : nodeR (.mk o name nw ws lo hi na xs) ↔ nodeF o name nw ws lo hi ∧ argP o na := by
    constructor
    · rintro ⟨o', h0, _, h2, h3⟩
      obtain rfl : o = o' := by omega
      exact ⟨h2, h3⟩
    · exact fun h => ⟨o, rfl, by omega, h.1, h.2⟩
  clear h1 h8
  obtain ⟨nm, hnm⟩ : ∃ nm, tNm o = nm := ⟨_, rfl⟩
  have HNM := Lib.hid hnm
  have HQ : Hid (nodeR (.mk o name nw ws lo hi na xs) ↔ (if nm = true then nameB name = true else name.toList = []) ∧ (if o = 4 then wordsP nw ws else nw = 0) ∧ (if o = 5 then numP lo ∧ numP hi ∧ lo ≤ hi else lo = 0 ∧ hi = 0) ∧ argP o na) := Lib.hid (by
    rw [← hnm, hQ]
    unfold nodeF
    exact ⟨fun h => ⟨h.1.1, h.1.2.1, h.1.2.2, h.2⟩, fun h => ⟨⟨h.1, h.2.1, h.2.2.1⟩, h.2.2.2⟩⟩)
  clear hnm hQ
  obtain ⟨ND, hND⟩ : ∃ P, nodeR (.mk o name nw ws lo hi na xs) = P := ⟨_, rfl⟩
  rw [hND] at HQ ⊢
  clear hND
  go_enter Tryz.func124, Tryz.ntmps124
  go_upto_region 1 with (fail)
  have HB2 : Hid (Below w.heap.size w (w.alloc (.cells #[.int .i64 o, .string name, .slice Aw nw cw, .int .i64 lo, .int .i64 hi, .slice Aa na ca] 43))) := Lib.hid ((Below.refl _ _).alloc (Nat.le_refl _) _)
  have HE := Lib.hid (Has.new w #[.int .i64 o, .string name, .slice Aw nw cw, .int .i64 lo, .int .i64 hi, .slice Aa na ca] 43)
  obtain ⟨W, hW⟩ : ∃ W, w.alloc (.cells #[.int .i64 o, .string name, .slice Aw nw cw, .int .i64 lo, .int .i64 hi, .slice Aa na ca] 43) = W := ⟨_, rfl⟩
  rw [hW] at HB2 HE ⊢
  clear hW
  obtain ⟨e0, e1, e2⟩ := HE.out.rules
  go_cut [3] (fun v wx => wx = W ∧ v = .bool nm)
  case first =>
    have ho : o = 1 ∨ o = 2 ∨ o = 3 ∨ o = 4 ∨ o = 5 ∨ o = 6 ∨ o = 7 ∨ o = 8 := by omega
    rcases ho with rfl | rfl | rfl | rfl | rfl | rfl | rfl | rfl
    all_goals
      go_wp2_with fail
      go_meet
      exact ⟨rfl, by rw [← HNM.out]; rfl⟩
  case rest =>
    obtain ⟨rfl, rfl⟩ := hcut
    have HN : Hid (ND → (if nm = true then nameB name = true else name.toList = [])) := Lib.hid fun c => (HQ.out.1 c).1
    have HF : Hid ((if nm = true then nameB name = true else name.toList = []) → (ND ↔ (if o = 4 then wordsP nw ws else nw = 0) ∧ (if o = 5 then numP lo ∧ numP hi ∧ lo ≤ hi else lo = 0 ∧ hi = 0) ∧ argP o na)) := Lib.hid fun c => ⟨fun h => (HQ.out.1 h).2, fun h => HQ.out.2 ⟨c, h⟩⟩
    clear HQ
    by_cases hN : (if nm = true then nameB name = true else name.toList = [])
    case neg =>
      have hno : ¬ ND := fun c => hN (HN.out c)
      have HNO := Lib.hid hno
      clear hno
      cases nm with
      | true =>
        have hb : nameB name = false := by rcases hq : nameB name with _ | _; (rfl); (exact absurd (by rw [if_pos rfl]; exact hq) hN)
        clear hN HF HN
        go_wp2_with (first | (go_at_call 81; refine (rname_any _ _).mono ?_; rintro e w' ⟨rfl, rfl⟩))
        go_ret
        exact IffPost.no HNO.out HB2.out
      | false =>
        have hb : (name.toList == []) = false := by rw [beq_eq_false_iff_ne]; intro hq; exact hN (by rw [if_neg (by simp)]; exact hq)
        clear hN HF HN
        go_wp2_with fail
        go_ret
        exact IffPost.no HNO.out HB2.out
    case pos =>
      replace HF := Lib.hid (HF.out hN)
      clear HN
      have hcase : (nm = true ∧ nameB name = true) ∨ (nm = false ∧ (name.toList == []) = true) := by
        cases nm with
        | true =>
          rw [if_pos rfl] at hN
          exact .inl ⟨rfl, hN⟩
        | false =>
          rw [if_neg (by simp)] at hN
          exact .inr ⟨rfl, by rw [hN]; rfl⟩
      clear hN
      rcases hcase with ⟨rfl, hb⟩ | ⟨rfl, hb⟩
      all_goals
        go_upto_region 4 with (first | (go_at_call 81; refine (rname_any _ _).mono ?_; rintro e w' ⟨rfl, rfl⟩))
        clear hb
        by_cases h4 : o = 4
        · have h4' : ((o : Int) == 4) = true := by rw [h4]; rfl
          have h5' : ((o : Int) == 5) = false := by rw [h4]; rfl
          have HF4 : Hid (ND ↔ wordsP nw ws ∧ (lo = 0 ∧ hi = 0) ∧ argP o na) := Lib.hid (by have := HF.out; rwa [if_pos h4, if_neg (by omega)] at this)
          clear HF h4
          by_cases hw1 : nw < 1
          · have hw1' : (nw : Int) < 1 := by omega
            go_wp2_with fail
            go_ret
            exact IffPost.no (fun c => by have := (HF4.out.1 c).1.1; omega) HB2.out
          by_cases hw2 : 12 < nw
          · have hw2' : (12 : Int) < nw := by omega
            go_wp2_with fail
            go_ret
            exact IffPost.no (fun c => by have := (HF4.out.1 c).1.1; omega) HB2.out
          have hw1' : (1 : Int) ≤ nw := by omega
          have hw2' : (nw : Int) ≤ 12 := by omega
          go_wp2_with fail
          refine (rnames_any Aw nw cw ws _ (by unfold big; omega) ((Cells.below HST.out HB2.out).mono HB2.out.size)).mono ?_
          rintro e w4 ⟨b, rfl, hb, hb4⟩
          replace HE := Lib.hid (HE.out.below hb4 e2)
          replace HB2 : Hid (Below w.heap.size w w4) := Lib.hid (HB2.out.trans (hb4.mono HB2.out.size))
          have HWD := Lib.hid hb
          clear hb hb4 e0 e1
          obtain ⟨e0, e1, e3⟩ := HE.out.rules
          cases b with
          | false =>
            go_wp2_with fail
            go_ret
            exact IffPost.no (fun c => by have := HWD.out.2 (HF4.out.1 c).1.2.1; simp at this) HB2.out
          | true =>
            go_wp2_with fail
            refine (rdistinct_any Aw nw cw ws _ (by unfold big; omega) ((Cells.below HST.out HB2.out).mono HB2.out.size)).mono ?_
            rintro e w5 ⟨b, rfl, hb, hb4⟩
            replace HE := Lib.hid (HE.out.below hb4 e3)
            replace HB2 : Hid (Below w.heap.size w w5) := Lib.hid (HB2.out.trans (hb4.mono HB2.out.size))
            have HWE := Lib.hid hb
            clear hb hb4 e0 e1
            obtain ⟨e0, e1, e4⟩ := HE.out.rules
            cases b with
            | false =>
              go_wp2_with fail
              go_ret
              exact IffPost.no (fun c => by have := HWE.out.2 (HF4.out.1 c).1.2.2; simp at this) HB2.out
            | true =>
              have HG : Hid (ND ↔ (lo = 0 ∧ hi = 0) ∧ argP o na) := Lib.hid ⟨fun c => (HF4.out.1 c).2, fun c => HF4.out.2 ⟨⟨by omega, HWD.out.1 (by trivial), HWE.out.1 (by trivial)⟩, c⟩⟩
              clear HF4 HWD HWE hw1 hw2
              by_cases hl : lo = 0
              case neg =>
                have hl' : (lo != 0) = true := by simpa using hl
                go_wp2_with fail
                go_ret
                exact IffPost.no (fun c => hl (HG.out.1 c).1.1) HB2.out
              by_cases hh : hi = 0
              case neg =>
                have hl' : (lo != 0) = false := by simpa using hl
                have hh' : (hi != 0) = true := by simpa using hh
                go_wp2_with fail
                go_ret
                exact IffPost.no (fun c => hh (HG.out.1 c).1.2) HB2.out
              have hl' : (lo != 0) = false := by simpa using hl
              have hh' : (hi != 0) = false := by simpa using hh
              have HA : Hid (ND ↔ argP o na) := Lib.hid ⟨fun c => (HG.out.1 c).2, fun c => HG.out.2 ⟨⟨hl, hh⟩, c⟩⟩
              clear HG
              go_upto_region 14 with (fail)
              clear hl hh
              have hcase : (o = 6 ∧ na = 1) ∨ (o = 6 ∧ na ≠ 1) ∨ (o = 7 ∧ 2 ≤ na) ∨ (o = 7 ∧ na < 2) ∨ (o = 8 ∧ 2 ≤ na) ∨ (o = 8 ∧ na < 2) ∨ ((o ≠ 6 ∧ o ≠ 7 ∧ o ≠ 8) ∧ na = 0) ∨ ((o ≠ 6 ∧ o ≠ 7 ∧ o ≠ 8) ∧ na ≠ 0) := by omega
              rcases hcase with ⟨ho, hn⟩ | ⟨ho, hn⟩ | ⟨ho, hn⟩ | ⟨ho, hn⟩ | ⟨ho, hn⟩ | ⟨ho, hn⟩ | ⟨ho, hn⟩ | ⟨ho, hn⟩
              · have h6' : ((o : Int) == 6) = true := by rw [ho]; rfl
                have hv : ((na : Int) == 1) = true := by rw [hn]; rfl
                have ha : argP o na := by rw [argP, if_pos ho]; exact hn
                clear ho hn
                go_wp2_with fail
                go_ret
                exact IffPost.yes (HA.out.2 ha) HB2.out
              · have h6' : ((o : Int) == 6) = true := by rw [ho]; rfl
                have hv : ((na : Int) == 1) = false := by rw [beq_eq_false_iff_ne]; omega
                have ha : ¬ argP o na := by rw [argP, if_pos ho]; exact hn
                clear ho hn
                go_wp2_with fail
                go_ret
                exact IffPost.no (fun c => ha (HA.out.1 c)) HB2.out
              · have h6' : ((o : Int) == 6) = false := by rw [ho]; rfl
                have h7' : ((o : Int) == 7) = true := by rw [ho]; rfl
                have hv : (2 : Int) ≤ na := by omega
                have ha : argP o na := by rw [argP, if_neg (by omega), if_pos (.inl ho)]; exact hn
                clear ho hn
                go_wp2_with fail
                go_ret
                exact ⟨_, rfl, by simp; exact HA.out.2 ha, HB2.out⟩
              · have h6' : ((o : Int) == 6) = false := by rw [ho]; rfl
                have h7' : ((o : Int) == 7) = true := by rw [ho]; rfl
                have hv : (na : Int) < 2 := by omega
                have ha : ¬ argP o na := by rw [argP, if_neg (by omega), if_pos (.inl ho)]; omega
                clear ho hn
                go_wp2_with fail
                go_ret
                exact ⟨_, rfl, by simp; exact ⟨fun c => absurd c (by omega), fun c => absurd (HA.out.1 c) ha⟩, HB2.out⟩
              · have h6' : ((o : Int) == 6) = false := by rw [ho]; rfl
                have h7' : ((o : Int) == 7) = false := by rw [ho]; rfl
                have h8' : ((o : Int) == 8) = true := by rw [ho]; rfl
                have hv : (2 : Int) ≤ na := by omega
                have ha : argP o na := by rw [argP, if_neg (by omega), if_pos (.inr ho)]; exact hn
                clear ho hn
                go_wp2_with fail
                go_ret
                exact ⟨_, rfl, by simp; exact HA.out.2 ha, HB2.out⟩
              · have h6' : ((o : Int) == 6) = false := by rw [ho]; rfl
                have h7' : ((o : Int) == 7) = false := by rw [ho]; rfl
                have h8' : ((o : Int) == 8) = true := by rw [ho]; rfl
                have hv : (na : Int) < 2 := by omega
                have ha : ¬ argP o na := by rw [argP, if_neg (by omega), if_pos (.inr ho)]; omega
                clear ho hn
                go_wp2_with fail
                go_ret
                exact ⟨_, rfl, by simp; exact ⟨fun c => absurd c (by omega), fun c => absurd (HA.out.1 c) ha⟩, HB2.out⟩
              · have h6' : ((o : Int) == 6) = false := by rw [beq_eq_false_iff_ne]; omega
                have h7' : ((o : Int) == 7) = false := by rw [beq_eq_false_iff_ne]; omega
                have h8' : ((o : Int) == 8) = false := by rw [beq_eq_false_iff_ne]; omega
                have hv : ((na : Int) == 0) = true := by rw [hn]; rfl
                have ha : argP o na := by rw [argP, if_neg ho.1, if_neg (by omega)]; exact hn
                clear ho hn
                go_wp2_with fail
                go_ret
                exact IffPost.yes (HA.out.2 ha) HB2.out
              · have h6' : ((o : Int) == 6) = false := by rw [beq_eq_false_iff_ne]; omega
                have h7' : ((o : Int) == 7) = false := by rw [beq_eq_false_iff_ne]; omega
                have h8' : ((o : Int) == 8) = false := by rw [beq_eq_false_iff_ne]; omega
                have hv : ((na : Int) == 0) = false := by rw [beq_eq_false_iff_ne]; omega
                have ha : ¬ argP o na := by rw [argP, if_neg ho.1, if_neg (by omega)]; exact hn
                clear ho hn
                go_wp2_with fail
                go_ret
                exact IffPost.no (fun c => ha (HA.out.1 c)) HB2.out
        · have h4' : ((o : Int) == 4) = false := by rw [beq_eq_false_iff_ne]; omega
          have HF4 : Hid (ND ↔ nw = 0 ∧ (if o = 5 then numP lo ∧ numP hi ∧ lo ≤ hi else lo = 0 ∧ hi = 0) ∧ argP o na) := Lib.hid (by have := HF.out; rwa [if_neg h4] at this)
          clear HF h4
          by_cases hw : 0 < nw
          · have hw' : (0 : Int) < nw := by omega
            go_wp2_with fail
            go_ret
            exact IffPost.no (fun c => by have := (HF4.out.1 c).1; omega) HB2.out
          have hw' : (nw : Int) ≤ 0 := by omega
          by_cases h5 : o = 5
          · have h5' : ((o : Int) == 5) = true := by rw [h5]; rfl
            have HF5 : Hid (ND ↔ (numP lo ∧ numP hi ∧ lo ≤ hi) ∧ argP o na) := Lib.hid (by have := HF4.out; rw [if_pos h5] at this; exact ⟨fun c => (this.1 c).2, fun c => this.2 ⟨by omega, c⟩⟩)
            clear HF4 hw
            obtain ⟨x, hx⟩ : ∃ x, (!decide (-1000000000 ≤ lo ∧ lo ≤ 1000000000)) = x := ⟨_, rfl⟩
            obtain ⟨y, hy⟩ : ∃ x, (!decide (-1000000000 ≤ hi ∧ hi ≤ 1000000000)) = x := ⟨_, rfl⟩
            have HX : Hid (x = false ↔ numP lo) := Lib.hid (by rw [← hx, Bool.not_eq_false', decide_eq_true_iff]; rfl)
            have HY : Hid (y = false ↔ numP hi) := Lib.hid (by rw [← hy, Bool.not_eq_false', decide_eq_true_iff]; rfl)
            have CX : Hid (∀ W, Calls Tryz.prog 112 #[.int .i64 lo] W fun e w' => e = .returned (.bool x) ∧ W = w') := Lib.hid fun W => by rw [← hx]; exact far_any lo W
            have CY : Hid (∀ W, Calls Tryz.prog 112 #[.int .i64 hi] W fun e w' => e = .returned (.bool y) ∧ W = w') := Lib.hid fun W => by rw [← hy]; exact far_any hi W
            clear hx hy
            cases x with
            | true =>
              go_wp2_with fail
              refine (CX.out _).mono ?_
              rintro e w' ⟨rfl, rfl⟩
              go_wp2_with fail
              go_ret
              exact IffPost.no (fun c => by have := HX.out.2 (HF5.out.1 c).1.1; simp at this) HB2.out
            | false =>
              go_wp2_with fail
              refine (CX.out _).mono ?_
              rintro e w' ⟨rfl, rfl⟩
              go_wp2_with fail
              refine (CY.out _).mono ?_
              rintro e w' ⟨rfl, rfl⟩
              cases y with
              | true =>
                go_wp2_with fail
                go_ret
                exact IffPost.no (fun c => by have := HY.out.2 (HF5.out.1 c).1.2.1; simp at this) HB2.out
              | false =>
                by_cases hle : lo ≤ hi
                · have HA : Hid (ND ↔ argP o na) := Lib.hid ⟨fun c => (HF5.out.1 c).2, fun c => HF5.out.2 ⟨⟨HX.out.1 (by trivial), HY.out.1 (by trivial), hle⟩, c⟩⟩
                  clear HF5 HX HY CX CY
                  have h6' : ((o : Int) == 6) = false := by rw [h5]; rfl
                  have h7' : ((o : Int) == 7) = false := by rw [h5]; rfl
                  have h8' : ((o : Int) == 8) = false := by rw [h5]; rfl
                  by_cases hn : na = 0
                  · have hv : ((na : Int) == 0) = true := by rw [hn]; rfl
                    have ha : argP o na := by rw [argP, if_neg (by omega), if_neg (by omega)]; exact hn
                    clear h5 hn
                    go_wp2_with fail
                    go_ret
                    exact IffPost.yes (HA.out.2 ha) HB2.out
                  · have hv : ((na : Int) == 0) = false := by rw [beq_eq_false_iff_ne]; omega
                    have ha : ¬ argP o na := by rw [argP, if_neg (by omega), if_neg (by omega)]; exact hn
                    clear h5 hn
                    go_wp2_with fail
                    go_ret
                    exact IffPost.no (fun c => ha (HA.out.1 c)) HB2.out
                · go_wp2_with fail
                  go_ret
                  exact IffPost.no (fun c => by have := (HF5.out.1 c).1.2.2; omega) HB2.out
          · have h5' : ((o : Int) == 5) = false := by rw [beq_eq_false_iff_ne]; omega
            have HG : Hid (ND ↔ (lo = 0 ∧ hi = 0) ∧ argP o na) := Lib.hid (by have := HF4.out; rw [if_neg h5] at this; exact ⟨fun c => (this.1 c).2, fun c => this.2 ⟨by omega, c⟩⟩)
            clear HF4 h5 hw
            by_cases hl : lo = 0
            case neg =>
              have hl' : (lo != 0) = true := by simpa using hl
              go_wp2_with fail
              go_ret
              exact IffPost.no (fun c => hl (HG.out.1 c).1.1) HB2.out
            by_cases hh : hi = 0
            case neg =>
              have hl' : (lo != 0) = false := by simpa using hl
              have hh' : (hi != 0) = true := by simpa using hh
              go_wp2_with fail
              go_ret
              exact IffPost.no (fun c => hh (HG.out.1 c).1.2) HB2.out
            have hl' : (lo != 0) = false := by simpa using hl
            have hh' : (hi != 0) = false := by simpa using hh
            have HA : Hid (ND ↔ argP o na) := Lib.hid ⟨fun c => (HG.out.1 c).2, fun c => HG.out.2 ⟨⟨hl, hh⟩, c⟩⟩
            clear HG
            go_upto_region 14 with (fail)
            clear hl hh
            have hcase : (o = 6 ∧ na = 1) ∨ (o = 6 ∧ na ≠ 1) ∨ (o = 7 ∧ 2 ≤ na) ∨ (o = 7 ∧ na < 2) ∨ (o = 8 ∧ 2 ≤ na) ∨ (o = 8 ∧ na < 2) ∨ ((o ≠ 6 ∧ o ≠ 7 ∧ o ≠ 8) ∧ na = 0) ∨ ((o ≠ 6 ∧ o ≠ 7 ∧ o ≠ 8) ∧ na ≠ 0) := by omega
            rcases hcase with ⟨ho, hn⟩ | ⟨ho, hn⟩ | ⟨ho, hn⟩ | ⟨ho, hn⟩ | ⟨ho, hn⟩ | ⟨ho, hn⟩ | ⟨ho, hn⟩ | ⟨ho, hn⟩
            · have h6' : ((o : Int) == 6) = true := by rw [ho]; rfl
              have hv : ((na : Int) == 1) = true := by rw [hn]; rfl
              have ha : argP o na := by rw [argP, if_pos ho]; exact hn
              clear ho hn
              go_wp2_with fail
              go_ret
              exact IffPost.yes (HA.out.2 ha) HB2.out
            · have h6' : ((o : Int) == 6) = true := by rw [ho]; rfl
              have hv : ((na : Int) == 1) = false := by rw [beq_eq_false_iff_ne]; omega
              have ha : ¬ argP o na := by rw [argP, if_pos ho]; exact hn
              clear ho hn
              go_wp2_with fail
              go_ret
              exact IffPost.no (fun c => ha (HA.out.1 c)) HB2.out
            · have h6' : ((o : Int) == 6) = false := by rw [ho]; rfl
              have h7' : ((o : Int) == 7) = true := by rw [ho]; rfl
              have hv : (2 : Int) ≤ na := by omega
              have ha : argP o na := by rw [argP, if_neg (by omega), if_pos (.inl ho)]; exact hn
              clear ho hn
              go_wp2_with fail
              go_ret
              exact ⟨_, rfl, by simp; exact HA.out.2 ha, HB2.out⟩
            · have h6' : ((o : Int) == 6) = false := by rw [ho]; rfl
              have h7' : ((o : Int) == 7) = true := by rw [ho]; rfl
              have hv : (na : Int) < 2 := by omega
              have ha : ¬ argP o na := by rw [argP, if_neg (by omega), if_pos (.inl ho)]; omega
              clear ho hn
              go_wp2_with fail
              go_ret
              exact ⟨_, rfl, by simp; exact ⟨fun c => absurd c (by omega), fun c => absurd (HA.out.1 c) ha⟩, HB2.out⟩
            · have h6' : ((o : Int) == 6) = false := by rw [ho]; rfl
              have h7' : ((o : Int) == 7) = false := by rw [ho]; rfl
              have h8' : ((o : Int) == 8) = true := by rw [ho]; rfl
              have hv : (2 : Int) ≤ na := by omega
              have ha : argP o na := by rw [argP, if_neg (by omega), if_pos (.inr ho)]; exact hn
              clear ho hn
              go_wp2_with fail
              go_ret
              exact ⟨_, rfl, by simp; exact HA.out.2 ha, HB2.out⟩
            · have h6' : ((o : Int) == 6) = false := by rw [ho]; rfl
              have h7' : ((o : Int) == 7) = false := by rw [ho]; rfl
              have h8' : ((o : Int) == 8) = true := by rw [ho]; rfl
              have hv : (na : Int) < 2 := by omega
              have ha : ¬ argP o na := by rw [argP, if_neg (by omega), if_pos (.inr ho)]; omega
              clear ho hn
              go_wp2_with fail
              go_ret
              exact ⟨_, rfl, by simp; exact ⟨fun c => absurd c (by omega), fun c => absurd (HA.out.1 c) ha⟩, HB2.out⟩
            · have h6' : ((o : Int) == 6) = false := by rw [beq_eq_false_iff_ne]; omega
              have h7' : ((o : Int) == 7) = false := by rw [beq_eq_false_iff_ne]; omega
              have h8' : ((o : Int) == 8) = false := by rw [beq_eq_false_iff_ne]; omega
              have hv : ((na : Int) == 0) = true := by rw [hn]; rfl
              have ha : argP o na := by rw [argP, if_neg ho.1, if_neg (by omega)]; exact hn
              clear ho hn
              go_wp2_with fail
              go_ret
              exact IffPost.yes (HA.out.2 ha) HB2.out
            · have h6' : ((o : Int) == 6) = false := by rw [beq_eq_false_iff_ne]; omega
              have h7' : ((o : Int) == 7) = false := by rw [beq_eq_false_iff_ne]; omega
              have h8' : ((o : Int) == 8) = false := by rw [beq_eq_false_iff_ne]; omega
              have hv : ((na : Int) == 0) = false := by rw [beq_eq_false_iff_ne]; omega
              have ha : ¬ argP o na := by rw [argP, if_neg ho.1, if_neg (by omega)]; exact hn
              clear ho hn
              go_wp2_with fail
              go_ret
              exact IffPost.no (fun c => ha (HA.out.1 c)) HB2.out
end Go.Proofs.YtlbkhhbbkedhkaaGreatDoor
namespace Go.Proofs.YtlbkhhbbkedhkaaGreatDoor
open Go.RowKit
set_option linter.unusedVariables false

theorem Ex.size_pos (e : Ex) : 1 ≤ e.size := by
  cases e
  · exact Nat.le_refl 1
  · simp only [Ex.size]; omega
theorem sumN_count {f : Nat → Nat} {n : Nat} (h : ∀ i, i < n → 1 ≤ f i) : n ≤ sumN f n := by
  induction n with
  | zero => omega
  | succ n ih =>
    have := ih fun i hi => h i (by omega)
    have := h n (by omega)
    rw [sumN]
    omega
theorem Ex.all_same (e : Ex) : e.size ≤ 300 → (e.all nodeQ ↔ e.all nodeR) := by
  induction e with
  | bot => exact fun _ => Iff.rfl
  | mk op name nw ws lo hi na xs ih =>
    intro hs
    have hsz : (Ex.mk op name nw ws lo hi na xs).size = 1 + sumN (fun i => (xs i).size) na := rfl
    rw [hsz] at hs
    have hna := sumN_count (f := fun i => (xs i).size) (n := na) fun i _ => (xs i).size_pos
    have h1 : nodeQ (Ex.mk op name nw ws lo hi na xs) ↔ nodeR (Ex.mk op name nw ws lo hi na xs) := by
      constructor
      · rintro ⟨o, e1, e2, e3, e4⟩
        refine ⟨o, e1, e2, e4, ?_⟩
        unfold argP
        unfold tLo tHi at e3
        by_cases c6 : o = 6
        · rw [if_pos c6, if_pos c6] at e3
          rw [if_pos c6]; omega
        · rw [if_neg c6, if_neg c6] at e3
          rw [if_neg c6]
          by_cases c7 : o = 7 ∨ o = 8
          · rw [if_pos c7, if_pos c7] at e3
            rw [if_pos c7]; omega
          · rw [if_neg c7, if_neg c7] at e3
            rw [if_neg c7]; omega
      · rintro ⟨o, e1, e2, e4, e3⟩
        refine ⟨o, e1, e2, ?_, e4⟩
        unfold argP at e3
        unfold tLo tHi
        by_cases c6 : o = 6
        · rw [if_pos c6] at e3
          rw [if_pos c6, if_pos c6]; omega
        · rw [if_neg c6] at e3
          rw [if_neg c6, if_neg c6]
          by_cases c7 : o = 7 ∨ o = 8
          · rw [if_pos c7] at e3
            rw [if_pos c7, if_pos c7]; omega
          · rw [if_neg c7] at e3
            rw [if_neg c7, if_neg c7]; omega
    have h2 : ∀ i, i < na → ((xs i).all nodeQ ↔ (xs i).all nodeR) := fun i hi => ih i (by
      have h5 : sumN (fun i => (xs i).size) i + (xs i).size ≤ sumN (fun i => (xs i).size) na := sumN_le (f := fun i => (xs i).size) hi
      omega)
    show (_ ∧ _) ↔ (_ ∧ _)
    exact ⟨fun c => ⟨h1.1 c.1, fun i hi => (h2 i hi).1 (c.2 i hi)⟩, fun c => ⟨h1.2 c.1, fun i hi => (h2 i hi).2 (c.2 i hi)⟩⟩

/-- the arguments of an expression, in a later world -/
theorem ExAt.later {w wr : World} {op : Int} {name : ByteArray} {nw : Nat} {ws : Nat → ByteArray} {lo hi : Int} {na : Nat} {xs : Nat → Ex} {Aw Aa : Option Addr} {cw ca : Nat} (h : ExAt w w.heap.size (.mk op name nw ws lo hi na xs) ⟨Aw, cw, Aa, ca⟩) (hb : Below w.heap.size w wr) {k : Nat} (hk : k < na) :
    ∃ pa b o, Aa = some ⟨b, o, none⟩ ∧ ExAt wr wr.heap.size (xs k) pa ∧ wr.rangeAt b (o + k * 6) ((xs k).cells pa).toList := by
  obtain ⟨P, hP⟩ := ExAt.args h
  obtain ⟨h1, b, o, h2, h3, h4⟩ := hP k hk
  exact ⟨P k, b, o, h2, h1.below hb hb.size, fun j v hj => by rw [hb.cell (p := ⟨b, o + k * 6 + j, none⟩) h3]; exact h4 j v hj⟩

set_option maxRecDepth 100000 in
set_option maxHeartbeats 2000000 in
theorem deeper_any (e : Ex) : ∀ (a : EA) (n : Nat) (w : World), n ≤ 100 → ExAt w w.heap.size e a → Calls Tryz.prog 113 #[.agg (e.cells a), .int .i64 n] w (IffPost (n < e.depth) w) := by
  induction e with
  | bot => exact fun a n w _ h => h.elim
  | mk op name nw ws lo hi na xs ih =>
    intro a n w hn hx
    have IH := Lib.hid ih
    have HX := Lib.hid hx
    have HXI := Lib.hid ex_info
    obtain ⟨_, ⟨hna, _⟩, _, _⟩ := hx
    obtain ⟨Aw, cw, Aa, ca⟩ := a
    have HD : Hid ((Ex.mk op name nw ws lo hi na xs).depth = 1 + maxN (fun i => (xs i).depth) na) := Lib.hid rfl
    clear ih
    unfold Ex.cells Ex.row
    simp only
    unfold big at hna
    by_cases h0 : n = 0
    · subst h0
      go_enter Tryz.func113, Tryz.ntmps113
      go_wp2_with fail
      go_ret
      exact IffPost.yes (by rw [HD.out]; omega) ((Below.refl _ _).alloc (Nat.le_refl _) _)
    have h0' : ((n : Int) == 0) = false := by rw [beq_eq_false_iff_ne]; omega
    have hn' : (n : Int) ≤ 100 := by omega
    have hw1 : IntKind.i64.wrap ((n : Int) - 1) = n - 1 := by rw [IntKind.wrap_i64]; omega
    have hn1 : (1 : Int) ≤ n := by omega
    go_enter Tryz.func113, Tryz.ntmps113
    go_upto_region 1 with (fail)
    have HB : Hid (Below w.heap.size w (w.alloc (.cells #[.int .i64 op, .string name, .slice Aw nw cw, .int .i64 lo, .int .i64 hi, .slice Aa na ca] 43))) := Lib.hid ((Below.refl _ _).alloc (Nat.le_refl _) _)
    have HE := Lib.hid (Has.new w #[.int .i64 op, .string name, .slice Aw nw cw, .int .i64 lo, .int .i64 hi, .slice Aa na ca] 43)
    obtain ⟨W, hW⟩ : ∃ W, w.alloc (.cells #[.int .i64 op, .string name, .slice Aw nw cw, .int .i64 lo, .int .i64 hi, .slice Aa na ca] 43) = W := ⟨_, rfl⟩
    rw [hW] at HB HE ⊢
    clear hW
    go_wp2_with fail
    go_loopw [5] (fun i wr => ∃ k : Nat, k ≤ na ∧ i = .int .i64 k ∧ Hid (Below w.heap.size w wr) ∧ Hid (Has wr w.heap.size #[.int .i64 op, .string name, .slice Aw nw cw, .int .i64 lo, .int .i64 hi, .slice Aa na ca] 43) ∧ Hid (∀ i, i < k → (xs i).depth ≤ n - 1)) (fun i _ => na - (intOf i).toNat)
    case atStart => exact ⟨0, Nat.zero_le _, rfl, HB, HE, Lib.hid fun i hi => by omega⟩
    case round =>
      clear HB HE
      obtain ⟨k, hk, rfl, HB, HE, HA⟩ := hrel
      obtain ⟨e0, e1, e2⟩ := HE.out.rules
      by_cases hlt : k < na
      · obtain ⟨pa, bb, o, hAa, hxk, hrg⟩ := HX.out.later HB.out hlt
        subst hAa
        have HRG := Lib.hid hrg
        have hk0 : (0 : Int) ≤ k := by omega
        have hk1 : (k : Int) < na := by omega
        have HCALL : Hid (Calls Tryz.prog 113 #[.agg ((xs k).cells pa), .int .i64 ((n : Int) - 1)] wr (IffPost (n - 1 < (xs k).depth) wr)) := Lib.hid (by
          have := IH.out k pa (n - 1) wr (by omega) hxk
          rwa [show ((n - 1 : Nat) : Int) = (n : Int) - 1 by omega] at this)
        clear hxk hrg
        go_wp2_with ((refine wpList_load_mid ?_ 43 (.tmp 18) ?_ bb (o + k * 6) ?_ _ _ HRG.out Tryz.underlying43 ?_ (by rw [Array.length_toList, Ex.cells_size]; exact HXI.out) ?_; rfl; rfl; rfl; rfl))
        refine HCALL.out.mono ?_
        rintro e w5 ⟨b, rfl, hb, hb5⟩
        replace HB := Lib.hid (HB.out.trans (hb5.mono HB.out.size))
        replace HE := Lib.hid (HE.out.below hb5 e2)
        have HBB := Lib.hid hb
        clear hb hb5 HCALL HRG e0 e1 e2
        cases b with
        | true =>
          go_wp2_with fail
          go_ret
          refine IffPost.yes ?_ HB.out
          have h9 : (xs k).depth ≤ maxN (fun i => (xs i).depth) na := maxN_le (f := fun i => (xs i).depth) hlt
          have h8 := HBB.out.1 (by trivial)
          rw [HD.out]
          omega
        | false =>
          have h8 : ¬ (n - 1 < (xs k).depth) := fun c => by have := HBB.out.2 c; simp at this
          go_wp2_with fail
          go_roundw
          case rel => exact ⟨k + 1, by omega, by go_num, HB, HE, Lib.hid fun i hi => by
            by_cases e : i = k
            · subst e; omega
            · exact HA.out i (by omega)⟩
          case measure => simp [intOf]; omega
      · have hkn : k = na := by omega
        subst hkn
        have hdd : decide ((k : Int) < k) = false := by rw [decide_eq_false_iff_not]; omega
        go_wp2_with fail
        go_ret
        refine IffPost.no ?_ HB.out
        have h9 := maxN_lub (f := fun i => (xs i).depth) (m := n - 1) (n := k) fun i hi => HA.out i hi
        rw [HD.out]
        omega
end Go.Proofs.YtlbkhhbbkedhkaaGreatDoor
