/- The reference's SameClauses: the same lists are the same. Lists that lie in blocks of a set: expressions, write-backs, clauses. No program in sight. endorse.cloneExpr: the same expression, in fresh blocks. -/
import Derived.Test.YtlbkhhbbkedhkaaGreatDoorMa11
namespace Go.Proofs.YtlbkhhbbkedhkaaGreatDoor
open Go.RowKit
set_option linter.unusedVariables false
attribute [local go_sem ↓] exec_load_ex

theorem Cl.slotE {w : World} {b o : Nat} {u : Cl} {a : WA} (h : w.rangeAt b o (u.cells a).toList) : w.rangeAt b (o + 2) (u.e.cells a.ea).toList := by
  rw [← Ex.cells_is]
  exact range_six (h 2 _ rfl) (h 3 _ rfl) (h 4 _ rfl) (h 5 _ rfl) (h 6 _ rfl) (h 7 _ rfl)
/-- what a region that compares two clauses is told -/
def ClS (w : World) (kd : Int) (nm : ByteArray) (Y : Array Value) (yn : Nat) (am : Int) (bb o : Nat) (pA : Option Addr) (pc : Nat) : Prop :=
  w.cell? ⟨bb, o, none⟩ = some (.int .i64 kd) ∧ w.cell? ⟨bb, o + 1, none⟩ = some (.string nm) ∧ ExS w (.pointer (some ⟨bb, o + 2, none⟩)) Y ∧ w.cell? ⟨bb, o + 8, none⟩ = some (.slice pA yn pc) ∧ w.cell? ⟨bb, o + 9, none⟩ = some (.int .i64 am)
theorem ClS.of {w : World} {b o : Nat} {u : Cl} {a : WA} (h : w.rangeAt b o (u.cells a).toList) : ClS w u.kind u.name (u.e.cells a.ea) u.n u.amt b o a.A a.c := ⟨h 0 _ rfl, h 1 _ rfl, ExS.of (Cl.slotE h), h 8 _ rfl, h 9 _ rfl⟩

set_option maxRecDepth 100000 in
set_option maxHeartbeats 8000000 in
theorem rsameclauses_yes (A A2 : Option Addr) (n c c2 : Nat) (cs : Nat → Cl) (w : World) (h1 : ClsAt w w.heap.size A n cs) (h2 : ClsAt w w.heap.size A2 n cs) :
    Calls Tryz.prog 12 #[.slice A n c, .slice A2 n c2] w (BolPost true w) := by
  have HX := Lib.hid h1
  have HX2 := Lib.hid h2
  have hn := h1.1
  clear h1 h2
  unfold big at hn
  go_enter Tryz.func12, Tryz.ntmps12
  go_wp2_with fail
  go_loopw [5] (fun i wr => ∃ k : Nat, k ≤ n ∧ i = .int .i64 k ∧ Hid (Below w.heap.size w wr)) (fun i _ => n - (intOf i).toNat)
  case atStart => exact ⟨0, Nat.zero_le _, rfl, Lib.hid (Below.refl _ _)⟩
  case round =>
    obtain ⟨k, hk, rfl, HB⟩ := hrel
    by_cases hlt : k < n
    · obtain ⟨pa, bb, o, hAa, hbb, hxk, hrg⟩ := HX.out.later HB.out HB.out.size hlt
      obtain ⟨pa2, bb2, o2, hAa2, hbb2, hxk2, hrg2⟩ := HX2.out.later HB.out HB.out.size hlt
      subst hAa hAa2
      have hs := HB.out.size
      have HS0 : Hid (∀ W, Below wr.heap.size wr W → ClS W (cs k).kind (cs k).name ((cs k).e.cells pa.ea) (cs k).n (cs k).amt bb (o + k * 10) pa.A pa.c ∧ ClS W (cs k).kind (cs k).name ((cs k).e.cells pa2.ea) (cs k).n (cs k).amt bb2 (o2 + k * 10) pa2.A pa2.c) := Lib.hid fun W hb =>
        ⟨ClS.of (range_below hrg hb (by omega)), ClS.of (range_below hrg2 hb (by omega))⟩
      have HC1 : Hid (∀ W, Below wr.heap.size wr W → Calls Tryz.prog 30 #[.agg ((cs k).e.cells pa.ea), .agg ((cs k).e.cells pa2.ea)] W (BolPost true W)) := Lib.hid fun W hb =>
        rsame_yes (cs k).e _ _ W (hxk.1.below hb hb.size) (hxk2.1.below hb hb.size)
      have HC2 : Hid (∀ W, Below wr.heap.size wr W → Calls Tryz.prog 31 #[.slice pa.A (cs k).n pa.c, .slice pa2.A (cs k).n pa2.c] W (BolPost true W)) := Lib.hid fun W hb =>
        rsamebacks_yes (.mk (cs k).name (cs k).e (cs k).n (cs k).us) _ _ _ _ W (hxk.2.below hb hb.size) (hxk2.2.below hb hb.size)
      obtain ⟨kd, hkd⟩ : ∃ z, (cs k).kind = z := ⟨_, rfl⟩
      obtain ⟨am, ham⟩ : ∃ z, (cs k).amt = z := ⟨_, rfl⟩
      obtain ⟨nm, hnm⟩ : ∃ z, (cs k).name = z := ⟨_, rfl⟩
      obtain ⟨Y, hY⟩ : ∃ z, (cs k).e.cells pa.ea = z := ⟨_, rfl⟩
      obtain ⟨Y2, hY2⟩ : ∃ z, (cs k).e.cells pa2.ea = z := ⟨_, rfl⟩
      obtain ⟨yn, hyn⟩ : ∃ z, (cs k).n = z := ⟨_, rfl⟩
      rw [hkd, ham, hnm, hY, hY2, hyn] at HS0
      rw [hY, hY2] at HC1
      rw [hyn] at HC2
      obtain ⟨pe, pA, pc⟩ := pa
      obtain ⟨pe2, pA2, pc2⟩ := pa2
      simp only at HS0 HC2
      clear hxk hxk2 hrg hrg2 hkd ham hnm hY hY2 hyn
      have he : (nm.toList == nm.toList) = true := by simp
      have hk0 : (0 : Int) ≤ k := by omega
      have hk1 : (k : Int) < n := by omega
      have HBB : Hid (Below wr.heap.size wr wr) := Lib.hid (Below.refl _ _)
      have HSS : Hid (∀ W, Below wr.heap.size wr W → W.cell? ⟨bb, o + k * 10, none⟩ = some (.int .i64 kd) ∧ W.cell? ⟨bb2, o2 + k * 10, none⟩ = some (.int .i64 kd) ∧ W.cell? ⟨bb, o + k * 10 + 1, none⟩ = some (.string nm) ∧ W.cell? ⟨bb2, o2 + k * 10 + 1, none⟩ = some (.string nm) ∧ W.cell? ⟨bb, o + k * 10 + 9, none⟩ = some (.int .i64 am) ∧ W.cell? ⟨bb2, o2 + k * 10 + 9, none⟩ = some (.int .i64 am) ∧ (∃ c, ExPtr W (.pointer (some ⟨bb, o + k * 10 + 2, none⟩)) c) ∧ exCells W (.pointer (some ⟨bb, o + k * 10 + 2, none⟩)) = Y ∧ (∃ c, ExPtr W (.pointer (some ⟨bb2, o2 + k * 10 + 2, none⟩)) c) ∧ exCells W (.pointer (some ⟨bb2, o2 + k * 10 + 2, none⟩)) = Y2 ∧ W.cell? ⟨bb, o + k * 10 + 8, none⟩ = some (.slice pA yn pc) ∧ W.cell? ⟨bb2, o2 + k * 10 + 8, none⟩ = some (.slice pA2 yn pc2)) :=
        Lib.hid fun W hb => ⟨(HS0.out W hb).1.1, (HS0.out W hb).2.1, (HS0.out W hb).1.2.1, (HS0.out W hb).2.2.1, (HS0.out W hb).1.2.2.2.2, (HS0.out W hb).2.2.2.2.2, (HS0.out W hb).1.2.2.1.1, (HS0.out W hb).1.2.2.1.2, (HS0.out W hb).2.2.2.1.1, (HS0.out W hb).2.2.2.1.2, (HS0.out W hb).1.2.2.2.1, (HS0.out W hb).2.2.2.2.1⟩
      clear HS0
      go_wp2_with fail
      dsimp only [List.append]
      go_region_held3 (fun W => W.cell? ⟨bb, o + k * 10, none⟩ = some (.int .i64 kd) ∧ W.cell? ⟨bb2, o2 + k * 10, none⟩ = some (.int .i64 kd) ∧ W.cell? ⟨bb, o + k * 10 + 1, none⟩ = some (.string nm) ∧ W.cell? ⟨bb2, o2 + k * 10 + 1, none⟩ = some (.string nm) ∧ W.cell? ⟨bb, o + k * 10 + 9, none⟩ = some (.int .i64 am) ∧ W.cell? ⟨bb2, o2 + k * 10 + 9, none⟩ = some (.int .i64 am) ∧ (∃ c, ExPtr W (.pointer (some ⟨bb, o + k * 10 + 2, none⟩)) c) ∧ exCells W (.pointer (some ⟨bb, o + k * 10 + 2, none⟩)) = Y ∧ (∃ c, ExPtr W (.pointer (some ⟨bb2, o2 + k * 10 + 2, none⟩)) c) ∧ exCells W (.pointer (some ⟨bb2, o2 + k * 10 + 2, none⟩)) = Y2 ∧ W.cell? ⟨bb, o + k * 10 + 8, none⟩ = some (.slice pA yn pc) ∧ W.cell? ⟨bb2, o2 + k * 10 + 8, none⟩ = some (.slice pA2 yn pc2)) (first | exact HSS.out _ HBB.out | exact HSS.out _ (below_drew HBB.out)) (first
        | (go_at_call 30; refine (HC1.out _ ?hh).mono ?_; (case hh => first | exact HBB.out | exact below_drew HBB.out); rintro e w5 ⟨rfl, hb5⟩; replace HBB : Hid (Below wr.heap.size wr w5) := Lib.hid (by first | exact HBB.out.trans (hb5.mono HBB.out.size) | exact (below_drew HBB.out).trans (hb5.mono HBB.out.size)); clear hb5)
        | (go_at_call 31; refine (HC2.out _ ?hh).mono ?_; (case hh => first | exact HBB.out | exact below_drew HBB.out); rintro e w6 ⟨rfl, hb6⟩; replace HBB : Hid (Below wr.heap.size wr w6) := Lib.hid (by first | exact HBB.out.trans (hb6.mono HBB.out.size) | exact (below_drew HBB.out).trans (hb6.mono HBB.out.size)); clear hb6))
      replace HB := Lib.hid (HB.out.trans (HBB.out.mono hs))
      clear HSS HBB HC1 HC2
      go_wp2_with fail
      go_roundw
      case rel => exact ⟨k + 1, by omega, by go_num, HB⟩
      case measure => simp [intOf]; omega
    · have hkn : k = n := by omega
      subst hkn
      have hdd : decide ((k : Int) < k) = false := by rw [decide_eq_false_iff_not]; omega
      go_wp2_with fail
      go_ret
      exact ⟨rfl, HB.out⟩
end Go.Proofs.YtlbkhhbbkedhkaaGreatDoor
namespace Go.Proofs.YtlbkhhbbkedhkaaGreatDoor
open Go.RowKit
set_option linter.unusedVariables false

/-- n cells in a block of S -/
def CellsS (S : Nat → Prop) (w : World) (A : Option Addr) (n : Nat) (f : Nat → Value) : Prop := 0 < n → ∃ b o, A = some ⟨b, o, none⟩ ∧ S b ∧ ∀ j, j < n → w.cell? ⟨b, o + j, none⟩ = some (f j)
def ExIn (S : Nat → Prop) (w : World) : Ex → EA → Prop
  | .bot, _ => False
  | .mk _ _ nw ws _ _ na xs, a => (nw ≤ big ∧ nw ≤ a.cw) ∧ (na ≤ big ∧ na ≤ a.ca) ∧ CellsS S w a.Aw nw (fun j => .string (ws j)) ∧ ∃ P : Nat → EA, CellsS S w a.Aa (na * 6) (fun j => (xs (j / 6)).cell (P (j / 6)) (j % 6)) ∧ ∀ i, i < na → ExIn S w (xs i) (P i)
def WbIn (S : Nat → Prop) (w : World) : Wb → WA → Prop
  | .bot, _ => False
  | .mk _ e n us, a => n ≤ big ∧ ExIn S w e a.ea ∧ ∃ P : Nat → WA, CellsS S w a.A (n * 8) (fun j => (us (j / 8)).cell (P (j / 8)) (j % 8)) ∧ ∀ i, i < n → WbIn S w (us i) (P i)
def WbsIn (S : Nat → Prop) (w : World) (A : Option Addr) (n : Nat) (us : Nat → Wb) : Prop :=
  n ≤ big ∧ ∃ P : Nat → WA, CellsS S w A (n * 8) (fun j => (us (j / 8)).cell (P (j / 8)) (j % 8)) ∧ ∀ i, i < n → WbIn S w (us i) (P i)
def ClIn (S : Nat → Prop) (w : World) (b : Cl) (a : WA) : Prop := ExIn S w b.e a.ea ∧ WbsIn S w a.A b.n b.us

section
variable {S T : Nat → Prop} {w w' : World} {B : Nat}
theorem CellsS.to {A : Option Addr} {n : Nat} {f : Nat → Value} (h : CellsS S w A n f) (hS : ∀ b, S b → b < B) : Cells w B A n f := fun hn => by
  obtain ⟨b, o, e, hs, hc⟩ := h hn
  exact ⟨_, e, hS b hs, fun j hj => by rw [Go.WideShapes.add_plain]; exact hc j hj⟩
theorem CellsS.of {A : Option Addr} {n : Nat} {f : Nat → Value} (h : Cells w B A n f) : CellsS (fun b => b < B) w A n f := fun hn => by
  obtain ⟨b, o, e, hb, hc⟩ := Cells.plain h hn
  exact ⟨b, o, e, hb, hc⟩
theorem CellsS.keep {A : Option Addr} {n : Nat} {f : Nat → Value} (h : CellsS S w A n f) (hk : ∀ b o, S b → w'.cell? ⟨b, o, none⟩ = w.cell? ⟨b, o, none⟩) (hS : ∀ b, S b → T b) : CellsS T w' A n f := fun hn => by
  obtain ⟨b, o, e, hs, hc⟩ := h hn
  exact ⟨b, o, e, hS b hs, fun j hj => (hk b _ hs).trans (hc j hj)⟩
theorem CellsS.zero {A : Option Addr} {f : Nat → Value} : CellsS S w A 0 f := fun h => by omega
theorem ExIn.to (hS : ∀ b, S b → b < B) (e : Ex) : ∀ a, ExIn S w e a → ExAt w B e a := by
  induction e with
  | bot => exact fun _ h => h
  | mk op name nw ws lo hi na xs ih =>
    rintro a ⟨h1, h2, h3, P, h4, h5⟩
    exact ⟨h1, h2, h3.to hS, P, h4.to hS, fun i hi => ih i _ (h5 i hi)⟩
theorem ExIn.of (e : Ex) : ∀ a, ExAt w B e a → ExIn (fun b => b < B) w e a := by
  induction e with
  | bot => exact fun _ h => h
  | mk op name nw ws lo hi na xs ih =>
    rintro a ⟨h1, h2, h3, P, h4, h5⟩
    exact ⟨h1, h2, .of h3, P, .of h4, fun i hi => ih i _ (h5 i hi)⟩
theorem ExIn.keep (hk : ∀ b o, S b → w'.cell? ⟨b, o, none⟩ = w.cell? ⟨b, o, none⟩) (hS : ∀ b, S b → T b) (e : Ex) : ∀ a, ExIn S w e a → ExIn T w' e a := by
  induction e with
  | bot => exact fun _ h => h
  | mk op name nw ws lo hi na xs ih =>
    rintro a ⟨h1, h2, h3, P, h4, h5⟩
    exact ⟨h1, h2, h3.keep hk hS, P, h4.keep hk hS, fun i hi => ih i _ (h5 i hi)⟩
theorem WbIn.to (hS : ∀ b, S b → b < B) (e : Wb) : ∀ a, WbIn S w e a → WbAt w B e a := by
  induction e with
  | bot => exact fun _ h => h
  | mk name e n us ih =>
    rintro a ⟨h1, h2, P, h4, h5⟩
    exact ⟨h1, ExIn.to hS _ _ h2, P, h4.to hS, fun i hi => ih i _ (h5 i hi)⟩
theorem WbIn.of (e : Wb) : ∀ a, WbAt w B e a → WbIn (fun b => b < B) w e a := by
  induction e with
  | bot => exact fun _ h => h
  | mk name e n us ih =>
    rintro a ⟨h1, h2, P, h4, h5⟩
    exact ⟨h1, ExIn.of _ _ h2, P, .of h4, fun i hi => ih i _ (h5 i hi)⟩
theorem WbIn.keep (hk : ∀ b o, S b → w'.cell? ⟨b, o, none⟩ = w.cell? ⟨b, o, none⟩) (hS : ∀ b, S b → T b) (e : Wb) : ∀ a, WbIn S w e a → WbIn T w' e a := by
  induction e with
  | bot => exact fun _ h => h
  | mk name e n us ih =>
    rintro a ⟨h1, h2, P, h4, h5⟩
    exact ⟨h1, ExIn.keep hk hS _ _ h2, P, h4.keep hk hS, fun i hi => ih i _ (h5 i hi)⟩
theorem WbsIn.to {A : Option Addr} {n : Nat} {us : Nat → Wb} (hS : ∀ b, S b → b < B) : WbsIn S w A n us → WbsAt w B A n us
  | ⟨h1, P, h4, h5⟩ => ⟨h1, P, h4.to hS, fun i hi => WbIn.to hS _ _ (h5 i hi)⟩
theorem WbsIn.of {A : Option Addr} {n : Nat} {us : Nat → Wb} : WbsAt w B A n us → WbsIn (fun b => b < B) w A n us
  | ⟨h1, P, h4, h5⟩ => ⟨h1, P, .of h4, fun i hi => WbIn.of _ _ (h5 i hi)⟩
theorem WbsIn.keep {A : Option Addr} {n : Nat} {us : Nat → Wb} (hk : ∀ b o, S b → w'.cell? ⟨b, o, none⟩ = w.cell? ⟨b, o, none⟩) (hS : ∀ b, S b → T b) : WbsIn S w A n us → WbsIn T w' A n us
  | ⟨h1, P, h4, h5⟩ => ⟨h1, P, h4.keep hk hS, fun i hi => WbIn.keep hk hS _ _ (h5 i hi)⟩
theorem ClIn.to {b : Cl} {a : WA} (hS : ∀ b, S b → b < B) (h : ClIn S w b a) : ClAt w B b a := ⟨ExIn.to hS _ _ h.1, WbsIn.to hS h.2⟩
theorem ClIn.of {b : Cl} {a : WA} (h : ClAt w B b a) : ClIn (fun b => b < B) w b a := ⟨ExIn.of _ _ h.1, WbsIn.of h.2⟩
theorem ClIn.keep {b : Cl} {a : WA} (hk : ∀ b o, S b → w'.cell? ⟨b, o, none⟩ = w.cell? ⟨b, o, none⟩) (hS : ∀ b, S b → T b) (h : ClIn S w b a) : ClIn T w' b a := ⟨ExIn.keep hk hS _ _ h.1, WbsIn.keep hk hS h.2⟩
end

/-- every node has few words and few arguments -/
def fewQ : Ex → Prop
  | .bot => False
  | .mk _ _ nw _ _ _ na _ => nw ≤ 12 ∧ na ≤ 300
theorem fewQ_of {e : Ex} (h : nodeQ e) : fewQ e := by
  cases e with
  | bot => exact h.elim
  | mk op name nw ws lo hi na xs =>
  obtain ⟨o, _, _, h2, h3⟩ := h
  refine ⟨?_, ?_⟩
  · have h4 := h3.2.1
    by_cases c : o = 4
    · rw [if_pos c] at h4; exact h4.1.2
    · rw [if_neg c] at h4; omega
  · have : tHi o ≤ 300 := by
      unfold tHi
      split
      · omega
      · split <;> omega
    omega
theorem Ex.all_mono {p q : Ex → Prop} (hpq : ∀ e, p e → q e) (e : Ex) : e.all p → e.all q := by
  induction e with
  | bot => exact fun h => h
  | mk op name nw ws lo hi na xs ih => exact fun h => ⟨hpq _ h.1, fun i hi => ih i (h.2 i hi)⟩
/-- every expression within a write-back is so, and there are few write-backs -/
def Wb.few : Wb → Prop
  | .bot => False
  | .mk _ e n us => e.all fewQ ∧ n ≤ 40 ∧ ∀ i, i < n → (us i).few
def fewL (n : Nat) (us : Nat → Wb) : Prop := n ≤ 40 ∧ ∀ i, i < n → (us i).few
theorem Wb.few_of (b : Wb) : b.all → b.count ≤ 41 → b.few := by
  induction b with
  | bot => exact fun h _ => h
  | mk name e n us ih =>
    intro h hc
    have hc' : 1 + sumN (fun i => (us i).count) n ≤ 41 := hc
    have hk : ∀ i, i < n → sumN (fun i => (us i).count) i + (us i).count ≤ sumN (fun i => (us i).count) n := fun i hi => sumN_le (f := fun i => (us i).count) hi
    have hn : n ≤ 40 := by
      have := countL_kids us n
      unfold countL at this
      omega
    refine ⟨Ex.all_mono (fun _ => fewQ_of) e h.2.1.2.2, hn, fun i hi => ih i (h.2.2 i hi) ?_⟩
    have := hk i hi
    omega
theorem fewL_of {n : Nat} {us : Nat → Wb} (h : allL n us) (hc : countL n us ≤ 40) : fewL n us := by
  refine ⟨by have := countL_kids us n; omega, fun i hi => Wb.few_of _ (h i hi) ?_⟩
  have : countL i us + (us i).count ≤ countL n us := sumN_le (f := fun i => (us i).count) hi
  omega
theorem Cl.few {b : Cl} (h : b.ok) : b.e.all fewQ ∧ fewL b.n b.us := ⟨Ex.all_mono (fun _ => fewQ_of) _ h.2.2.1.2.2, fewL_of h.2.2.2.1.2.2.2 h.2.2.2.1.2.1⟩
end Go.Proofs.YtlbkhhbbkedhkaaGreatDoor
namespace Go.Proofs.YtlbkhhbbkedhkaaGreatDoor
open Go.RowKit
set_option linter.unusedVariables false
attribute [local go_sem ↓] exec_load_ex

theorem clone_str (A : Option Addr) (n c : Nat) (f : Nat → ByteArray) (w : World) (hn : n ≤ 1000) (h : Strs w w.heap.size A n f) :
    Calls Tryz.prog 82 #[.slice A n c] w (RowMade n 1 9 (fun j => .string (f j)) w) := by
  cases A with
  | none =>
    have hz : n = 0 := by
      rcases Nat.eq_zero_or_pos n with h' | h'
      · exact h'
      · obtain ⟨ad, e, _⟩ := h (by omega)
        cases e
    subst hz
    refine (Tryz.slices_Clone_string_nil 0 c w).mono ?_
    rintro e w' ⟨rfl, rfl⟩
    exact ⟨_, rfl, ⟨rfl, .inl ⟨rfl, rfl⟩⟩, Below.refl _ _⟩
  | some ad =>
    rcases Nat.eq_zero_or_pos n with h' | h'
    · subst h'
      refine (Tryz.slices_Clone_string_zero ad c w).mono ?_
      rintro e w' ⟨v, rfl, ho, _, hb⟩
      exact ⟨v, rfl, ho, hb⟩
    · obtain ⟨b, o, e, hb, hc⟩ := Strs.get h h'
      injection e with e
      subst e
      refine (Tryz.slices_Clone_string b o n c ((List.range n).map f) w (by simp) (by omega) fun j hj => ?_).mono ?_
      · have hj' : j < n := by simpa using hj
        rw [hc j hj']
        simp [List.getD, hj']
      · rintro e w' ⟨v, rfl, ho, _, hbb⟩
        refine ⟨v, rfl, ?_, hbb⟩
        have e1 : (((List.range n).map f).take n).map Value.string = rowL (n * 1) (fun j => .string (f j)) := by
          rw [List.take_of_length_le (by simp), Nat.mul_one, rowL, List.map_map]
          rfl
        rw [e1] at ho
        exact ho

/-- a row that has been made, as a slice -/
theorem RowMade.slice {n s : Nat} {e : TypeId} {F : Nat → Value} {w w' : World} {r : Ending} (hs : 0 < s) (h : RowMade n s e F w r w') :
    ∃ (A : Option Addr) (c : Nat), r = .returned (.slice A n c) ∧ n ≤ c ∧ Below w.heap.size w w' ∧ (A = none → n = 0) ∧ (∀ ad, A = some ad → ∃ g, ad = ⟨g, 0, none⟩ ∧ Own w' w.heap.size g n c s e F) := by
  obtain ⟨v, rfl, ho, hb⟩ := h
  rcases Own.made ho (F := F) (fun j hj => rowL_get _ _ _ hj) with ⟨rfl, rfl⟩ | ⟨g, cap, rfl, hw⟩
  · exact ⟨none, 0, rfl, Nat.le_refl _, hb, fun _ => rfl, fun ad e => by cases e⟩
  · exact ⟨_, cap, rfl, hw.len.1, hb, (fun e => by cases e), fun ad e => by injection e with e; exact ⟨g, e.symm, hw⟩⟩
theorem Own.cellsS {w : World} {base g n cap s : Nat} {e : TypeId} {F : Nat → Value} {S : Nat → Prop} (h : Own w base g n cap s e F) (hS : S g) : CellsS S w (some ⟨g, 0, none⟩) (n * s) F := fun hn => ⟨g, 0, rfl, hS, fun j hj => by rw [Nat.zero_add]; exact h.cell hj⟩

/-- six cells that may be written -/
def ThPtr (w : World) (v : Value) : Prop := ∃ b o, v = .pointer (some ⟨b, o, none⟩) ∧ w.there b o 6
def ExVal (v : Value) : Prop := ∃ (e : Ex) (a : EA), v = .agg (e.cells a)
def exPut (w : World) (p v : Value) : World := match p, v with
  | .pointer (some a), .agg cs => w.setCells a.block a.off cs.toList
  | _, _ => w
theorem exec_store_ex {ev : Operand → Value} {d : Option Tmp} {x y : Operand} {ty : TypeId} {pos : String} {af : Array Edge} {g : Option (Nat × Bool)} {w : World} (h : ThPtr w (ev x)) (hy : ExVal (ev y)) :
    (execOp ev { dst := d, op := .store 43 x y, type := ty, pos := pos, after := af, guard := g }).run Tryz.prog w = .ok .skip (exPut w (ev x) (ev y)) := by
  obtain ⟨b, o, hv, ht⟩ := h
  obtain ⟨e, a, ha⟩ := hy
  have e1 : exPut w (.pointer (some ⟨b, o, none⟩)) (.agg (e.cells a)) = w.setCells b o (e.cells a).toList := rfl
  unfold execOp
  simp only [hv, ha, Instr.storeAt, Instr.sureAddr, Sem.run_bind, Sem.run_pure, Result.andThen_ok, run_storeVar_mid w b o 43 (e.cells a) (by rw [Ex.cells_size]; exact ht) (by rw [Ex.cells_size]; exact ex_info) (by rw [← Array.all_toList]; exact Ex.cells_one e a), e1]
attribute [local go_sem ↓] exec_store_ex

/-- what cloneExpr returns -/
def CloneP (e : Ex) (w : World) (r : Ending) (w' : World) : Prop := ∃ a : EA, r = .returned (.agg (e.cells a)) ∧ ExIn (fun b => w.heap.size ≤ b ∧ b < w'.heap.size) w' e a ∧ Below w.heap.size w w'

/-- the cells of a list of arguments -/
def argF (xs : Nat → Ex) (P : Nat → EA) (j : Nat) : Value := (xs (j / 6)).cell (P (j / 6)) (j % 6)
theorem argF_at (xs : Nat → Ex) (P : Nat → EA) (i j : Nat) (hj : j < 6) : argF xs P (i * 6 + j) = (xs i).cell (P i) j := by
  unfold argF
  rw [(at_div (by omega) hj).1, (at_div (by omega) hj).2]
theorem Ex.cell_one (e : Ex) (a : EA) (k : Nat) : (e.cell a k).oneCell' = true := by
  cases e
  all_goals
    match k with
    | 0 | 1 | 2 | 3 | 4 => rfl
    | k + 5 => rfl
theorem argF_one (xs : Nat → Ex) (P : Nat → EA) (j : Nat) : (argF xs P j).oneCell' = true := Ex.cell_one _ _ _
theorem argF_put {xs : Nat → Ex} {P : Nat → EA} {i : Nat} {a : EA} {w : World} {base g n cap : Nat} {e : TypeId} (h : Own w base g n cap 6 e (argF xs P)) (hi : i < n) :
    Own (w.setCells g (i * 6) ((xs i).cells a).toList) base g n cap 6 e (argF xs (fun j => if j = i then a else P j)) := by
  refine h.write (by rw [Array.length_toList, Ex.cells_size]) hi fun j hj => ?_
  by_cases c : j / 6 = i
  · rw [if_pos ((div_at (by omega)).2 c)]
    have hm : j - i * 6 = j % 6 := by omega
    rw [hm, Ex.cells_get _ _ _ (Nat.mod_lt _ (by omega)), argF, if_pos c, c]
  · rw [if_neg (fun h => c ((div_at (by omega)).1 h)), argF, if_neg c, argF]
end Go.Proofs.YtlbkhhbbkedhkaaGreatDoor
