/- Two lists of numbers compared. retro.settle and the reference's from: the iteration till nothing changes. The reference's from: the iteration till nothing changes. retro.Least, Greatest and Solve. retro.Greatest (printed by wip/gen/retro.py). -/
import Derived.Test.YtbeikfopneeodaaGreatMt41
import Derived.Test.YtbeikfopneeodaaGreatMt43
namespace Go.Proofs.YtbeikfopneeodaaGreat
open Go.RowKit
set_option linter.unusedVariables false

/-- are the first n numbers the same? -/
def eqn (n : Nat) (f g : Nat → Int) : Prop := ∀ i, i < n → f i = g i
instance (n : Nat) (f g : Nat → Int) : Decidable (eqn n f g) := inferInstanceAs (Decidable (∀ i, i < n → f i = g i))

set_option maxHeartbeats 1000000 in
theorem equal_any (A A2 : Option Addr) (n c c2 : Nat) (f g : Nat → Int) (B B2 : Nat) (w : World) (hn : n ≤ 9223372036854775807) (h1 : Nums w B A n f) (h2 : Nums w B2 A2 n g) :
    Calls Tryz.prog 18 #[.slice A n c, .slice A2 n c2] w fun e w' => e = .returned (.bool (decide (eqn n f g))) ∧ ∃ m, w' = w.drewN m := by
  have H1 := Lib.hid h1
  have H2 := Lib.hid h2
  obtain ⟨d, hd⟩ : ∃ d, decide (eqn n f g) = d := ⟨_, rfl⟩
  rw [hd]
  have HD := Lib.hid hd
  clear h1 h2 hd
  go_enter Tryz.func18, Tryz.ntmps18
  go_wp2
  go_loopw [5, 13] (fun _ i wr => ∃ k : Nat, k ≤ n ∧ i = .int .i64 k ∧ Hid (∀ j, j < k → f j = g j) ∧ ∃ m, wr = w.drewN m) (fun _ i _ => n - (intOf i).toNat)
  case atStart => exact ⟨0, Nat.zero_le _, rfl, Lib.hid fun j hj => absurd hj (by omega), 0, rfl⟩
  case round =>
    obtain ⟨k, hk, rfl, HE, m, rfl⟩ := hrel
    by_cases hlt : k < n
    · obtain ⟨b, o, rfl, _, hc⟩ := H1.out.get hlt
      obtain ⟨b', o', rfl, _, hc'⟩ := H2.out.get hlt
      obtain ⟨x, hx⟩ : ∃ x, f k = x := ⟨_, rfl⟩
      obtain ⟨y, hy⟩ : ∃ y, g k = y := ⟨_, rfl⟩
      rw [hx] at hc
      rw [hy] at hc'
      have hk0 : (0 : Int) ≤ k := by omega
      have hk1 : (k : Int) < n := by omega
      by_cases he : x = y
      · subst he
        have HE2 : Hid (∀ j, j < k + 1 → f j = g j) := Lib.hid fun j hj => by
          by_cases e : j = k
          · rw [e, hx, hy]
          · exact HE.out j (by omega)
        clear hx hy
        go_wp2
        go_quiet (fail)
        go_wp2
        go_roundw
        case rel => exact ⟨k + 1, by omega, by go_num, HE2, _, by first | rfl | exact World.drewN_drewN _ _ _⟩
        case measure => simp [intOf]; omega
      · have HF : Hid (d = false) := Lib.hid (by rw [← HD.out, decide_eq_false_iff_not]; intro c; exact he (by rw [← hx, ← hy]; exact c k hlt))
        have hne : (x != y) = true := by rw [bne_iff_ne]; exact he
        clear hx hy he
        go_wp2
        go_quiet (fail)
        go_wp2
        go_ret
        exact ⟨by rw [HF.out]; rfl, _, by first | rfl | exact World.drewN_drewN _ _ _⟩
    · have HF : Hid (d = true) := Lib.hid (by rw [← HD.out, decide_eq_true_iff]; exact fun i hi => HE.out i (by omega))
      go_wp2
      go_ret
      exact ⟨by rw [HF.out]; rfl, m, rfl⟩

set_option maxHeartbeats 1000000 in
theorem same_any (A A2 : Option Addr) (n c c2 : Nat) (f g : Nat → Int) (B B2 : Nat) (w : World) (hn : n ≤ 9223372036854775807) (h1 : Nums w B A n f) (h2 : Nums w B2 A2 n g) :
    Calls Tryz.prog 8 #[.slice A n c, .slice A2 n c2] w fun e w' => e = .returned (.bool (decide (eqn n f g))) ∧ ∃ m, w' = w.drewN m := by
  have H1 := Lib.hid h1
  have H2 := Lib.hid h2
  obtain ⟨d, hd⟩ : ∃ d, decide (eqn n f g) = d := ⟨_, rfl⟩
  rw [hd]
  have HD := Lib.hid hd
  clear h1 h2 hd
  go_enter Tryz.func8, Tryz.ntmps8
  go_wp2
  go_loopw [5] (fun i wr => ∃ k : Nat, k ≤ n ∧ i = .int .i64 k ∧ Hid (∀ j, j < k → f j = g j) ∧ ∃ m, wr = w.drewN m) (fun i _ => n - (intOf i).toNat)
  case atStart => exact ⟨0, Nat.zero_le _, rfl, Lib.hid fun j hj => absurd hj (by omega), 0, rfl⟩
  case round =>
    obtain ⟨k, hk, rfl, HE, m, rfl⟩ := hrel
    by_cases hlt : k < n
    · obtain ⟨b, o, rfl, _, hc⟩ := H1.out.get hlt
      obtain ⟨b', o', rfl, _, hc'⟩ := H2.out.get hlt
      obtain ⟨x, hx⟩ : ∃ x, f k = x := ⟨_, rfl⟩
      obtain ⟨y, hy⟩ : ∃ y, g k = y := ⟨_, rfl⟩
      rw [hx] at hc
      rw [hy] at hc'
      have hk0 : (0 : Int) ≤ k := by omega
      have hk1 : (k : Int) < n := by omega
      by_cases he : x = y
      · subst he
        have HE2 : Hid (∀ j, j < k + 1 → f j = g j) := Lib.hid fun j hj => by
          by_cases e : j = k
          · rw [e, hx, hy]
          · exact HE.out j (by omega)
        clear hx hy
        go_wp2
        go_quiet (fail)
        go_wp2
        go_roundw
        case rel => exact ⟨k + 1, by omega, by go_num, HE2, _, by first | rfl | exact World.drewN_drewN _ _ _⟩
        case measure => simp [intOf]; omega
      · have HF : Hid (d = false) := Lib.hid (by rw [← HD.out, decide_eq_false_iff_not]; intro c; exact he (by rw [← hx, ← hy]; exact c k hlt))
        have hne : (x != y) = true := by rw [bne_iff_ne]; exact he
        have hne2 : (x == y) = false := by rw [beq_eq_false_iff_ne]; exact he
        clear hx hy he
        go_wp2
        go_quiet (fail)
        go_wp2
        go_ret
        exact ⟨by rw [HF.out]; rfl, _, by first | rfl | exact World.drewN_drewN _ _ _⟩
    · have HF : Hid (d = true) := Lib.hid (by rw [← HD.out, decide_eq_true_iff]; exact fun i hi => HE.out i (by omega))
      go_wp2
      go_ret
      exact ⟨by rw [HF.out]; rfl, m, rfl⟩
end Go.Proofs.YtbeikfopneeodaaGreat
namespace Go.Proofs.YtbeikfopneeodaaGreat
open Go.RowKit
set_option linter.unusedVariables false

namespace Re
def rnd (s : Option ((Nat → Int) × Nat)) : Int := match s with | none => 0 | some p => p.2
def ser (s : Option ((Nat → Int) × Nat)) : Int := match s with | none => 4 | some _ => 0
def lst (s : Option ((Nat → Int) × Nat)) : Nat → Int := match s with | none => fun _ => 0 | some p => p.1
theorem sett_stop {F : (Nat → Int) → Nat → Int} {n f c : Nat} {x : Nat → Int} (h : eqn n (F x) x) : sett F n (f + 1) c x = some (F x, c) := by rw [sett]; exact if_pos h
theorem sett_go {F : (Nat → Int) → Nat → Int} {n f c : Nat} {x : Nat → Int} (h : ¬ eqn n (F x) x) : sett F n (f + 1) c x = sett F n f (c + 1) (F x) := by rw [sett]; exact if_neg h
theorem eqn_comm (n : Nat) (f g : Nat → Int) : eqn n f g ↔ eqn n g f := ⟨fun h i hi => (h i hi).symm, fun h i hi => (h i hi).symm⟩
end Re

/-- a list, the rounds and an error are returned -/
def TriPost (n : Nat) (ev : Int) (s : Option ((Nat → Int) × Nat)) (w : World) (e : Ending) (w' : World) : Prop :=
  ∃ (X : Option Addr) (mm c : Nat), e = .returned (.tuple #[.slice X mm c, .int .i64 (Re.rnd s), .int .i64 ev]) ∧ Below w.heap.size w w' ∧ mm = (if s.isSome then n else 0) ∧ Nums w' w'.heap.size X mm (Re.lst s) ∧ ∀ ad, X = some ad → w.heap.size ≤ ad.block

theorem TriPost.nothing {n : Nat} {ev : Int} {s : Option ((Nat → Int) × Nat)} {w w' : World} (hs : s = none) (hb : Below w.heap.size w w') :
    TriPost n ev s w (.returned (.tuple #[.slice none 0 0, .int .i64 0, .int .i64 ev])) w' := by
  subst hs
  exact ⟨none, 0, 0, rfl, hb, rfl, Nums.zero, fun _ h => by cases h⟩

set_option maxHeartbeats 2000000 in
theorem settle_any (A : Option Addr) (n c : Nat) (o : Nat → Int) (A2 : Option Addr) (m c2 : Nat) (R : Nat → Re.Rt) (A3 : Option Addr) (c3 : Nat) (x : Nat → Int) (w : World)
    (hV : Re.verr n o m R = 0) (h : Nums w w.heap.size A n o) (h2 : Rets w w.heap.size A2 m R) (h3 : Nums w w.heap.size A3 n x) (hx : ∀ i, i < n → 0 ≤ x i ∧ x i ≤ 17592186044416) :
    Calls Tryz.prog 24 #[.slice A n c, .slice A2 m c2, .slice A3 n c3] w (TriPost n (Re.ser (Re.sett (Re.step o m R) n 2000 1 x)) (Re.sett (Re.step o m R) n 2000 1 x) w) := by
  obtain ⟨hf1, hf2, hf3, hfo, hfr⟩ := Re.verr_fine hV
  obtain ⟨S, hS⟩ : ∃ S, Re.sett (Re.step o m R) n (2001 - 1) 1 x = S := ⟨_, rfl⟩
  rw [show Re.sett (Re.step o m R) n 2000 1 x = S from hS]
  have HS1 := Lib.hid hS
  have H := Lib.hid h
  have H2 := Lib.hid h2
  have H3 := Lib.hid h3
  have HFO := Lib.hid hfo
  have HV := Lib.hid hV
  have HX := Lib.hid hx
  clear hS h h2 h3 hfo hfr hV hx
  go_enter Tryz.func24, Tryz.ntmps24
  go_wp2_with fail
  go_loopw [9, 10, 11, 12] (fun X i _ _ wr => ∃ (k : Nat) (A3 : Option Addr) (c3 : Nat) (x : Nat → Int), 1 ≤ k ∧ k ≤ 2001 ∧ i = .int .i64 k ∧ X = .slice A3 n c3 ∧ Hid (Re.sett (Re.step o m R) n (2001 - k) k x = S) ∧ Hid (Nums wr wr.heap.size A3 n x) ∧ Hid (∀ i, i < n → 0 ≤ x i ∧ x i ≤ 17592186044416) ∧ Hid (Below w.heap.size w wr) ∧ Hid (∀ ad, A3 = some ad → 1 < k → w.heap.size ≤ ad.block)) (fun _ i _ _ _ => 2001 - (intOf i).toNat)
  case atStart => exact ⟨1, A3, c3, x, by omega, by omega, rfl, rfl, HS1, H3, HX, Lib.hid (Below.refl _ _), Lib.hid fun _ _ h => absurd h (by omega)⟩
  case round =>
    clear HS1 H3 HX
    obtain ⟨k, A3, c3, x, hk1, hk2, rfl, rfl, HS, H3, HX, HB, HFR⟩ := hrel
    have hs := HB.out.size
    by_cases hlt : k ≤ 2000
    · obtain ⟨q, hq⟩ : ∃ q, 2001 - k = q + 1 := ⟨2000 - k, by omega⟩
      have HE0 : Hid (Re.lerr n o m R n x = 0) := Lib.hid (Re.lerr_ok HV.out HX.out)
      have CI := Lib.hid (iterate_any A n c o A2 m c2 R A3 n c3 x wr (by omega) (by omega) (by omega) ((H.out.below HB.out).mono hs) ((H2.out.below HB.out).mono hs) H3.out)
      rw [HE0.out] at CI
      have HQ := Lib.hid hq
      clear hq HE0
      go_wp2_with fail
      refine CI.out.mono ?_
      rintro e w1 ⟨X, mm, c4, rfl, hb, hmm, hnx, hfr⟩
      rw [if_pos rfl] at hmm
      subst hmm
      have HB1 : Hid (Below w.heap.size w w1) := Lib.hid (HB.out.trans (hb.mono hs))
      have H31 := Lib.hid ((H3.out.below hb).mono hb.size)
      have HN := Lib.hid hnx
      have HFR1 : Hid (∀ ad, X = some ad → w.heap.size ≤ ad.block) := Lib.hid fun ad h => Nat.le_trans hs (hfr ad h)
      clear hb hnx hfr CI
      by_cases heq : eqn mm (Re.step o m R x) x
      · have HR : Hid (S = some (Re.step o m R x, k)) := Lib.hid (by rw [← HS.out, HQ.out, Re.sett_stop heq])
        have CE := Lib.hid (equal_any X A3 mm c4 c3 (Re.step o m R x) x w1.heap.size w1.heap.size w1 (by omega) HN.out H31.out)
        rw [decide_eq_true heq] at CE
        clear heq
        go_wp2_with fail
        refine CE.out.mono ?_
        rintro e w2 ⟨rfl, nq, rfl⟩
        go_wp2_with fail
        go_ret3
        refine ⟨X, mm, c4, by rw [HR.out]; rfl, below_drewN HB1.out _, by rw [HR.out]; rfl, by rw [HR.out]; exact HN.out.drewN _, HFR1.out⟩
      · have HR : Hid (Re.sett (Re.step o m R) mm (2001 - (k + 1)) (k + 1) (Re.step o m R x) = S) := Lib.hid (by rw [← HS.out, HQ.out, Re.sett_go heq, show 2001 - (k + 1) = q by have := HQ.out; omega])
        have CE := Lib.hid (equal_any X A3 mm c4 c3 (Re.step o m R x) x w1.heap.size w1.heap.size w1 (by omega) HN.out H31.out)
        rw [decide_eq_false heq] at CE
        have HX1 : Hid (∀ i, i < mm → 0 ≤ Re.step o m R x i ∧ Re.step o m R x i ≤ 17592186044416) := Lib.hid fun i hi => by
          have h1 := Re.step_bound o m R x i
          have h2 := HFO.out i hi
          omega
        clear heq
        go_wp2_with fail
        refine CE.out.mono ?_
        rintro e w2 ⟨rfl, nq, rfl⟩
        go_wp2_with fail
        go_roundw
        case rel => exact ⟨k + 1, X, c4, Re.step o m R x, by omega, by omega, by go_num, rfl, HR, Lib.hid (HN.out.drewN _), HX1, Lib.hid (below_drewN HB1.out _), Lib.hid fun ad h _ => HFR1.out ad h⟩
        case measure => simp [intOf]; omega
    · have hkn : k = 2001 := by omega
      have HR : Hid (S = none) := Lib.hid (by rw [← HS.out, hkn]; rfl)
      clear hkn
      go_wp2_with fail
      go_ret3
      have := TriPost.nothing (n := n) (ev := Re.ser S) HR.out HB.out
      rw [HR.out] at this ⊢
      exact this
end Go.Proofs.YtbeikfopneeodaaGreat
namespace Go.Proofs.YtbeikfopneeodaaGreat
open Go.RowKit
set_option linter.unusedVariables false

end Go.Proofs.YtbeikfopneeodaaGreat
namespace Go.Proofs.YtbeikfopneeodaaGreat
open Go.RowKit
set_option linter.unusedVariables false

namespace Re
def sev (V : Int) (s : Option ((Nat → Int) × Nat)) : Int := if V = 0 then ser s else V
def sop (V : Int) (s : Option ((Nat → Int) × Nat)) : Option ((Nat → Int) × Nat) := if V = 0 then s else none
def least (n : Nat) (o : Nat → Int) (m : Nat) (R : Nat → Rt) : Option ((Nat → Int) × Nat) := sett (step o m R) n 2000 1 o
def greatest (n : Nat) (o : Nat → Int) (m : Nat) (R : Nat → Rt) : Option ((Nat → Int) × Nat) := sett (step o m R) n 2000 1 (top o m R)
theorem top_bound {n : Nat} {o : Nat → Int} {m : Nat} {R : Nat → Rt} (hV : verr n o m R = 0) (i : Nat) (hi : i < n) : o i ≤ top o m R i ∧ 0 ≤ top o m R i ∧ top o m R i ≤ 26843545600 := by
  obtain ⟨hf1, hf2, hf3, hfo, hfr⟩ := verr_fine hV
  have h1 := acc_bound o (toN R) (fun j => (R j).li) 1073741824 m i (fun j hj => by have := (hfr j hj).2.2; exact ⟨by have := this.2.2.2.2.1; omega, this.2.2.2.2.2⟩) (by omega)
  have h2 := hfo i hi
  unfold top
  omega
def both (V : Int) (s1 s2 : Option ((Nat → Int) × Nat)) : Prop := V = 0 ∧ s1.isSome = true ∧ s2.isSome = true
instance (V : Int) (s1 s2 : Option ((Nat → Int) × Nat)) : Decidable (both V s1 s2) := inferInstanceAs (Decidable (_ ∧ _))
def crn (V : Int) (s1 s2 : Option ((Nat → Int) × Nat)) (r : Int) : Int := if both V s1 s2 then r else 0
def cst (n : Nat) (V : Int) (s1 s2 : Option ((Nat → Int) × Nat)) : Int := if V ≠ 0 then 0 else if both V s1 s2 then (if eqn n (lst s1) (lst s2) then 1 else 2) else 3
theorem ser_ne {s : Option ((Nat → Int) × Nat)} (h : s = none) : (ser s != 0) = true := by subst h; rfl
theorem ser_eq {s : Option ((Nat → Int) × Nat)} {p : (Nat → Int) × Nat} (h : s = some p) : ser s = 0 := by subst h; rfl
end Re

theorem Calls.cast {P : Program} {f : FuncId} {args : Array Value} {w : World} {Q Q' : Ending → World → Prop} (h : Calls P f args w Q) (e : Q = Q') : Calls P f args w Q' := by subst e; exact h

set_option maxHeartbeats 2000000 in
theorem least_any (A : Option Addr) (n c : Nat) (o : Nat → Int) (A2 : Option Addr) (m c2 : Nat) (R : Nat → Re.Rt) (w : World) (hn : n ≤ 9223372036854775807) (hm : m ≤ 9223372036854775807)
    (h : Nums w w.heap.size A n o) (h2 : Rets w w.heap.size A2 m R) :
    Calls Tryz.prog 16 #[.slice A n c, .slice A2 m c2] w (TriPost n (Re.sev (Re.verr n o m R) (Re.least n o m R)) (Re.sop (Re.verr n o m R) (Re.least n o m R)) w) := by
  have CV := Lib.hid (rtvalidate_any A n c o A2 m c2 R w hn hm h h2)
  obtain ⟨V, hV⟩ : ∃ V, Re.verr n o m R = V := ⟨_, rfl⟩
  rw [hV] at CV ⊢
  by_cases hv : V = 0
  · subst hv
    have CS : Hid (∀ W : World, Below w.heap.size w W → Calls Tryz.prog 24 #[.slice A n c, .slice A2 m c2, .slice A n c] W (TriPost n (Re.ser (Re.least n o m R)) (Re.least n o m R) W)) := Lib.hid fun W hb =>
      settle_any A n c o A2 m c2 R A c o W hV ((h.below hb).mono hb.size) ((h2.below hb).mono hb.size) ((h.below hb).mono hb.size) (fun i hi => by have := (Re.verr_fine hV).2.2.2.1 i hi; omega)
    rw [show Re.sev 0 (Re.least n o m R) = Re.ser (Re.least n o m R) from if_pos rfl, show Re.sop 0 (Re.least n o m R) = Re.least n o m R from if_pos rfl]
    obtain ⟨s, hs⟩ : ∃ s, Re.least n o m R = s := ⟨_, rfl⟩
    rw [hs] at CS ⊢
    clear hs hV h h2
    go_enter Tryz.func16, Tryz.ntmps16
    go_wp2_with fail
    refine CV.out.mono ?_
    rintro e w1 ⟨rfl, hb⟩
    have HB := Lib.hid hb
    clear hb CV
    go_wp2_with fail
    refine (CS.out _ HB.out).mono ?_
    rintro e w2 ⟨X, mm, c4, rfl, hb, hmm, hnx, hfr⟩
    have HP : Hid (TriPost n (Re.ser s) s w (.returned (.tuple #[.slice X mm c4, .int .i64 (Re.rnd s), .int .i64 (Re.ser s)])) w2) := Lib.hid ⟨X, mm, c4, rfl, HB.out.trans (hb.mono HB.out.size), hmm, hnx, fun ad h => Nat.le_trans HB.out.size (hfr ad h)⟩
    clear hb hmm hnx hfr
    go_wp2_with fail
    go_ret3
    exact HP.out
  · have hne : (V != 0) = true := by rw [bne_iff_ne]; exact hv
    rw [show Re.sev V (Re.least n o m R) = V from if_neg hv, show Re.sop V (Re.least n o m R) = none from if_neg hv]
    clear hV h h2
    go_enter Tryz.func16, Tryz.ntmps16
    go_wp2_with fail
    refine CV.out.mono ?_
    rintro e w1 ⟨rfl, hb⟩
    have HB := Lib.hid hb
    clear hb CV
    go_wp2_with fail
    go_ret3
    exact TriPost.nothing rfl HB.out

end Go.Proofs.YtbeikfopneeodaaGreat
namespace Go.Proofs.YtbeikfopneeodaaGreat
open Go.RowKit
set_option linter.unusedVariables false

set_option maxRecDepth 100000 in
set_option maxHeartbeats 4000000 in
theorem greatest_any (A : Option Addr) (n c : Nat) (o : Nat → Int) (A2 : Option Addr) (m c2 : Nat) (R : Nat → Re.Rt) (w : World) (hn : n ≤ 9223372036854775807) (hm : m ≤ 9223372036854775807)
    (h : Nums w w.heap.size A n o) (h2 : Rets w w.heap.size A2 m R) :
    Calls Tryz.prog 17 #[.slice A n c, .slice A2 m c2] w (TriPost n (Re.sev (Re.verr n o m R) (Re.greatest n o m R)) (Re.sop (Re.verr n o m R) (Re.greatest n o m R)) w) := by
  have CV := Lib.hid (rtvalidate_any A n c o A2 m c2 R w hn hm h h2)
  obtain ⟨V, hV⟩ : ∃ V, Re.verr n o m R = V := ⟨_, rfl⟩
  rw [hV] at CV ⊢
  by_cases hv : V = 0
  · subst hv
    obtain ⟨hf1, hf2, hf3, hfo, hfr⟩ := Re.verr_fine hV
    have CS : Hid (∀ (W : World) (A3 : Option Addr) (c3 : Nat), Below w.heap.size w W → Nums W W.heap.size A3 n (Re.top o m R) → Calls Tryz.prog 24 #[.slice A n c, .slice A2 m c2, .slice A3 n c3] W (TriPost n (Re.ser (Re.greatest n o m R)) (Re.greatest n o m R) W)) := Lib.hid fun W A3 c3 hb h3 =>
      settle_any A n c o A2 m c2 R A3 c3 (Re.top o m R) W hV ((h.below hb).mono hb.size) ((h2.below hb).mono hb.size) h3 (fun i hi => by have := Re.top_bound hV i hi; omega)
    rw [show Re.sev 0 (Re.greatest n o m R) = Re.ser (Re.greatest n o m R) from if_pos rfl, show Re.sop 0 (Re.greatest n o m R) = Re.greatest n o m R from if_pos rfl]
    obtain ⟨s, hs⟩ : ∃ s, Re.greatest n o m R = s := ⟨_, rfl⟩
    rw [hs] at CS ⊢
    have H := Lib.hid h
    have H2 := Lib.hid h2
    have HFO := Lib.hid hfo
    have HFR := Lib.hid hfr
    obtain ⟨i0, hi0, hz0, hz1, hz2⟩ := info_parts int_info
    have HI := Lib.hid hi0
    have HZ0 := Lib.hid hz0
    have HZ1 := Lib.hid hz1
    have HZ2 := Lib.hid hz2
    clear hi0 hz0 hz1 hz2
    clear hs hV h h2 hfo hfr
    go_enter Tryz.func17, Tryz.ntmps17
    go_wp2_with fail
    refine CV.out.mono ?_
    rintro e w1 ⟨rfl, hb⟩
    have HB := Lib.hid hb
    have hs := hb.size
    clear hb CV
    obtain ⟨b1, of1, hA, hb1, _⟩ := ((H.out.below HB.out).mono hs).get (j := 0) (by omega)
    subst hA
    have HN : Hid (∀ j u, (numsL n o)[j]? = some u → w1.cell? ((⟨b1, of1, none⟩ : Addr).add j) = some u) := Lib.hid (Nums.news (H.out.below HB.out))
    go_wp2_with ((at_builtin; refine wpList_append_lies _ rfl _ _ 22 rfl w.heap.size 3 i0 _ 1 8 Tryz.underlying22 HI.out HZ0.out HZ1.out HZ2.out rfl (by omega) (.slice none 0 0) 0 [] rfl ⟨rfl, .inl ⟨rfl, rfl⟩⟩ ⟨b1, of1, none⟩ n c (numsL n o) rfl (by rw [numsL_length, Nat.mul_one]) HN.out (numsL_one n o) (by omega) (by unfold maxLen; omega) (by omega) hs w1.heap.size rfl ?_; intro g cap w2 hown hgrow hat hlt2))
    simp only [Nat.zero_add, List.nil_append] at hown
    have HO : Hid (OwnN w2 w.heap.size g n cap (Re.acc o (Re.toN R) (fun j => (R j).li) 0)) := Lib.hid hown
    have HB2 : Hid (Below w.heap.size w w2) := Lib.hid (HB.out.grown hgrow hs (fun _ h => by cases h))
    clear hown hgrow hat hlt2 HN hb1
    go_wp2_with fail
    go_loopw [10, 21] (fun _ i wr => ∃ k : Nat, k ≤ m ∧ i = .int .i64 k ∧ Hid (OwnN wr w.heap.size g n cap (Re.acc o (Re.toN R) (fun j => (R j).li) k)) ∧ Hid (Below w.heap.size w wr)) (fun _ i _ => m - (intOf i).toNat)
    case atStart => exact ⟨0, Nat.zero_le _, rfl, HO, HB2⟩
    case round =>
      clear HO HB2 HB hs
      obtain ⟨k, hk, rfl, HO, HB⟩ := hrel
      have hs := HB.out.size
      by_cases hlt : k < m
      · obtain ⟨b, of, rfl, had, hc0, hc1, hc2, hc3, hc4⟩ := ((H2.out.below HB.out).mono hs).get hlt
        have hf := HFR.out k hlt
        obtain ⟨r, hr⟩ : ∃ r, R k = r := ⟨_, rfl⟩
        rw [hr] at hc0 hc1 hc2 hc3 hc4 hf
        have HR := Lib.hid hr
        clear hr
        obtain ⟨fr, ds, sh, re, li⟩ := r
        simp only at hc0 hc1 hc2 hc3 hc4 hf
        obtain ⟨⟨g0, g1, g2, g3⟩, _, p0, p1, p2, p3, p4, p5⟩ := hf
        simp only at p0 p1 p2 p3 p4 p5
        obtain ⟨f, rfl⟩ : ∃ f : Nat, fr = f := ⟨fr.toNat, by omega⟩
        obtain ⟨d, rfl⟩ : ∃ d : Nat, ds = d := ⟨ds.toNat, by omega⟩
        have hfn : f < n := by omega
        have hdn : d < n := by omega
        have HFN : Hid (Re.frN R k = f) := Lib.hid (by rw [Re.frN, HR.out]; simp)
        have HTN : Hid (Re.toN R k = d) := Lib.hid (by rw [Re.toN, HR.out]; simp)
        have hsb := Re.acc_bound o (Re.toN R) (fun j => (R j).li) 1073741824 k d (fun j hj => by have := (HFR.out j (by omega)).2.2; exact ⟨by have := this.2.2.2.2.1; omega, this.2.2.2.2.2⟩) (by omega)
        have hob := HFO.out d hdn
        obtain ⟨s, hs'⟩ : ∃ s, Re.acc o (Re.toN R) (fun j => (R j).li) k d = s := ⟨_, rfl⟩
        have hsb1 : 0 ≤ s ∧ s ≤ 26843545600 := by rw [← hs']; omega
        obtain ⟨s0, s1⟩ := hsb1
        have hq0 := HO.out.cell d hdn
        have hq1 := HO.out.free d
        rw [hs'] at hq0
        have hgl := HO.out.lt
        have hgb := HO.out.base_le
        have HSS : Hid (Re.acc o (Re.toN R) (fun j => (R j).li) (k + 1) d = s + li) := Lib.hid (by rw [Re.acc_hit _ _ HTN.out.symm, HR.out, ← hs'])
        have HO2 : Hid (∀ W : World, OwnN W w.heap.size g n cap (Re.acc o (Re.toN R) (fun j => (R j).li) k) → OwnN (W.setCell ⟨g, d, none⟩ (.int .i64 (s + li))) w.heap.size g n cap (Re.acc o (Re.toN R) (fun j => (R j).li) (k + 1))) := Lib.hid fun W hW => (hW.put d _).congr fun j hj => by
          by_cases e : j = d
          · rw [if_pos e, e, HSS.out]
          · rw [if_neg e, Re.acc_miss _ _ (by rw [HTN.out]; exact e)]
        have hw1 : IntKind.i64.wrap (s + li) = s + li := by rw [IntKind.wrap_i64]; omega
        have HS0 := Lib.hid hs'
        clear hsb hs' hob
        obtain ⟨W, hW⟩ : ∃ W, wr.alloc (.cells #[.int .i64 (f : Int), .int .i64 (d : Int), .int .i64 sh, .int .i64 re, .int .i64 li] 42) = W := ⟨_, rfl⟩
        go_wp2_with fail
        have HXB : Hid (Has W wr.heap.size #[.int .i64 (f : Int), .int .i64 (d : Int), .int .i64 sh, .int .i64 re, .int .i64 li] 42) := Lib.hid (by rw [← hW]; exact Has.new wr _ _)
        replace HO : Hid (OwnN W w.heap.size g n cap (Re.acc o (Re.toN R) (fun j => (R j).li) k)) := Lib.hid (by rw [← hW]; exact HO.out.alloc _)
        replace HB : Hid (Below w.heap.size w W) := Lib.hid (by rw [← hW]; exact HB.out.alloc hs _)
        have hwz : wr.heap.size < W.heap.size := HXB.out.lt
        obtain ⟨bx, hbx⟩ : ∃ b, wr.heap.size = b := ⟨_, rfl⟩
        rw [hbx] at HXB hgl hs hwz ⊢
        clear hq0 hq1 hc0 hc1 hc2 hc3 hc4 hW hbx had
        obtain ⟨d0, d1, d2⟩ := HXB.out.rules
        have hq0 := HO.out.cell d hdn
        have hq1 := HO.out.free d
        rw [HS0.out] at hq0
        go_region
        all_goals
          go_wp2_with fail
          go_roundw
          case rel => exact ⟨k + 1, by omega, by go_num, Lib.hid (HO2.out _ HO.out).drew, Lib.hid (HB.out.setCell hgb _).drew⟩
          case measure => simp [intOf]; omega
      · have hkn : k = m := by omega
        subst hkn
        go_wp2_with fail
        refine (CS.out _ _ _ HB.out HO.out.nums).mono ?_
        rintro e w2 ⟨X, mm, c4, rfl, hb, hmm, hnx, hfr⟩
        have HP : Hid (TriPost n (Re.ser s) s w (.returned (.tuple #[.slice X mm c4, .int .i64 (Re.rnd s), .int .i64 (Re.ser s)])) w2) := Lib.hid ⟨X, mm, c4, rfl, HB.out.trans (hb.mono HB.out.size), hmm, hnx, fun ad h => Nat.le_trans HB.out.size (hfr ad h)⟩
        clear hb hmm hnx hfr
        go_wp2_with fail
        go_ret3
        exact HP.out
  · have hne : (V != 0) = true := by rw [bne_iff_ne]; exact hv
    rw [show Re.sev V (Re.greatest n o m R) = V from if_neg hv, show Re.sop V (Re.greatest n o m R) = none from if_neg hv]
    clear hV h h2
    go_enter Tryz.func17, Tryz.ntmps17
    go_wp2_with fail
    refine CV.out.mono ?_
    rintro e w1 ⟨rfl, hb⟩
    have HB := Lib.hid hb
    clear hb CV
    go_wp2_with fail
    go_ret3
    exact TriPost.nothing rfl HB.out
end Go.Proofs.YtbeikfopneeodaaGreat
