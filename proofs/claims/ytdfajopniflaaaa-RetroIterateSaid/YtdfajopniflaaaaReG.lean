/- retro.Least, Greatest and Solve. -/
import Derived.Test.YtdfajopniflaaaaReT
import Derived.Test.YtdfajopniflaaaaReF
namespace Go.Proofs.Ytdfajopniflaaaa
open Go.RowKit
set_option linter.unusedVariables false

namespace Re
def sev (V : Int) (s : Option ((Nat → Int) × Nat)) : Int := if V = 0 then ser s else V
def sop (V : Int) (s : Option ((Nat → Int) × Nat)) : Option ((Nat → Int) × Nat) := if V = 0 then s else none
def least (n : Nat) (o : Nat → Int) (m : Nat) (R : Nat → Rt) : Option ((Nat → Int) × Nat) := sett (step o m R) n 2000 1 o
def greatest (n : Nat) (o : Nat → Int) (m : Nat) (R : Nat → Rt) : Option ((Nat → Int) × Nat) := sett (step o m R) n 2000 1 (top o m R)
theorem top_bound {n : Nat} {o : Nat → Int} {m : Nat} {R : Nat → Rt} (hV : verr n o m R = 0) (i : Nat) (hi : i < n) : o i ≤ top o m R i ∧ 0 ≤ top o m R i ∧ top o m R i ≤ 26843545600 := by
  obtain ⟨hf1, hf2, hf3, hfo, hfr⟩ := verr_fine hV
  have h1 := acc_bound o (toN R) (fun j => (R j).li) 1073741824 m i (fun j hj => by have := (hfr j hj).2.2; exact ⟨by have := this.2.2.2.2.1; omega, this.2.2.2.2.2⟩) (by omega)
  have h2 := hfo i hi
  unfold top
  omega
def both (V : Int) (s1 s2 : Option ((Nat → Int) × Nat)) : Prop := V = 0 ∧ s1.isSome = true ∧ s2.isSome = true
instance (V : Int) (s1 s2 : Option ((Nat → Int) × Nat)) : Decidable (both V s1 s2) := inferInstanceAs (Decidable (_ ∧ _))
def crn (V : Int) (s1 s2 : Option ((Nat → Int) × Nat)) (r : Int) : Int := if both V s1 s2 then r else 0
def cst (n : Nat) (V : Int) (s1 s2 : Option ((Nat → Int) × Nat)) : Int := if V ≠ 0 then 0 else if both V s1 s2 then (if eqn n (lst s1) (lst s2) then 1 else 2) else 3
theorem ser_ne {s : Option ((Nat → Int) × Nat)} (h : s = none) : (ser s != 0) = true := by subst h; rfl
theorem ser_eq {s : Option ((Nat → Int) × Nat)} {p : (Nat → Int) × Nat} (h : s = some p) : ser s = 0 := by subst h; rfl
end Re

theorem Calls.cast {P : Program} {f : FuncId} {args : Array Value} {w : World} {Q Q' : Ending → World → Prop} (h : Calls P f args w Q) (e : Q = Q') : Calls P f args w Q' := by subst e; exact h

set_option maxHeartbeats 2000000 in
theorem least_any (A : Option Addr) (n c : Nat) (o : Nat → Int) (A2 : Option Addr) (m c2 : Nat) (R : Nat → Re.Rt) (w : World) (hn : n ≤ 9223372036854775807) (hm : m ≤ 9223372036854775807)
    (h : Nums w w.heap.size A n o) (h2 : Rets w w.heap.size A2 m R) :
    Calls Try.prog 12 #[.slice A n c, .slice A2 m c2] w (TriPost n (Re.sev (Re.verr n o m R) (Re.least n o m R)) (Re.sop (Re.verr n o m R) (Re.least n o m R)) w) := by
  have CV := Lib.hid (validate_any A n c o A2 m c2 R w hn hm h h2)
  obtain ⟨V, hV⟩ : ∃ V, Re.verr n o m R = V := ⟨_, rfl⟩
  rw [hV] at CV ⊢
  by_cases hv : V = 0
  · subst hv
    have CS : Hid (∀ W : World, Below w.heap.size w W → Calls Try.prog 32 #[.slice A n c, .slice A2 m c2, .slice A n c] W (TriPost n (Re.ser (Re.least n o m R)) (Re.least n o m R) W)) := Lib.hid fun W hb =>
      settle_any A n c o A2 m c2 R A c o W hV ((h.below hb).mono hb.size) ((h2.below hb).mono hb.size) ((h.below hb).mono hb.size) (fun i hi => by have := (Re.verr_fine hV).2.2.2.1 i hi; omega)
    rw [show Re.sev 0 (Re.least n o m R) = Re.ser (Re.least n o m R) from if_pos rfl, show Re.sop 0 (Re.least n o m R) = Re.least n o m R from if_pos rfl]
    obtain ⟨s, hs⟩ : ∃ s, Re.least n o m R = s := ⟨_, rfl⟩
    rw [hs] at CS ⊢
    clear hs hV h h2
    go_enter Try.func12, Try.ntmps12
    go_wp2_with fail
    refine CV.out.mono ?_
    rintro e w1 ⟨rfl, hb⟩
    have HB := Lib.hid hb
    clear hb CV
    go_wp2_with fail
    refine (CS.out _ HB.out).mono ?_
    rintro e w2 ⟨X, mm, c4, rfl, hb, hmm, hnx, hfr⟩
    have HP : Hid (TriPost n (Re.ser s) s w (.returned (.tuple #[.slice X mm c4, .int .i64 (Re.rnd s), .int .i64 (Re.ser s)])) w2) := Lib.hid ⟨X, mm, c4, rfl, HB.out.trans (hb.mono HB.out.size), hmm, hnx, fun ad h => Nat.le_trans HB.out.size (hfr ad h)⟩
    clear hb hmm hnx hfr
    go_wp2_with fail
    go_ret3
    exact HP.out
  · have hne : (V != 0) = true := by rw [bne_iff_ne]; exact hv
    rw [show Re.sev V (Re.least n o m R) = V from if_neg hv, show Re.sop V (Re.least n o m R) = none from if_neg hv]
    clear hV h h2
    go_enter Try.func12, Try.ntmps12
    go_wp2_with fail
    refine CV.out.mono ?_
    rintro e w1 ⟨rfl, hb⟩
    have HB := Lib.hid hb
    clear hb CV
    go_wp2_with fail
    go_ret3
    exact TriPost.nothing rfl HB.out

set_option maxHeartbeats 2000000 in
theorem rleast_any (A : Option Addr) (n c : Nat) (o : Nat → Int) (A2 : Option Addr) (m c2 : Nat) (R : Nat → Re.Rt) (w : World) (hn : n ≤ 9223372036854775807) (hm : m ≤ 9223372036854775807)
    (h : Nums w w.heap.size A n o) (h2 : Rets w w.heap.size A2 m R) :
    Calls Try.prog 13 #[.slice A n c, .slice A2 m c2] w (TriPost n (Re.sev (Re.verr n o m R) (Re.least n o m R)) (Re.sop (Re.verr n o m R) (Re.least n o m R)) w) := by
  have CV := Lib.hid (rvalidate_any A n c o A2 m c2 R w hn hm h h2)
  obtain ⟨V, hV⟩ : ∃ V, Re.verr n o m R = V := ⟨_, rfl⟩
  rw [hV] at CV ⊢
  by_cases hv : V = 0
  · subst hv
    have CS : Hid (∀ W : World, Below w.heap.size w W → Calls Try.prog 33 #[.slice A n c, .slice A2 m c2, .slice A n c] W (TriPost n (Re.ser (Re.least n o m R)) (Re.least n o m R) W)) := Lib.hid fun W hb =>
      from_any A n c o A2 m c2 R A c o W hV ((h.below hb).mono hb.size) ((h2.below hb).mono hb.size) ((h.below hb).mono hb.size) (fun i hi => by have := (Re.verr_fine hV).2.2.2.1 i hi; omega)
    rw [show Re.sev 0 (Re.least n o m R) = Re.ser (Re.least n o m R) from if_pos rfl, show Re.sop 0 (Re.least n o m R) = Re.least n o m R from if_pos rfl]
    obtain ⟨s, hs⟩ : ∃ s, Re.least n o m R = s := ⟨_, rfl⟩
    rw [hs] at CS ⊢
    clear hs hV h h2
    go_enter Try.func13, Try.ntmps13
    go_wp2_with fail
    refine CV.out.mono ?_
    rintro e w1 ⟨rfl, hb⟩
    have HB := Lib.hid hb
    clear hb CV
    go_wp2_with fail
    refine (CS.out _ HB.out).mono ?_
    rintro e w2 ⟨X, mm, c4, rfl, hb, hmm, hnx, hfr⟩
    have HP : Hid (TriPost n (Re.ser s) s w (.returned (.tuple #[.slice X mm c4, .int .i64 (Re.rnd s), .int .i64 (Re.ser s)])) w2) := Lib.hid ⟨X, mm, c4, rfl, HB.out.trans (hb.mono HB.out.size), hmm, hnx, fun ad h => Nat.le_trans HB.out.size (hfr ad h)⟩
    clear hb hmm hnx hfr
    go_wp2_with fail
    go_ret3
    exact HP.out
  · have hne : (V != 0) = true := by rw [bne_iff_ne]; exact hv
    rw [show Re.sev V (Re.least n o m R) = V from if_neg hv, show Re.sop V (Re.least n o m R) = none from if_neg hv]
    clear hV h h2
    go_enter Try.func13, Try.ntmps13
    go_wp2_with fail
    refine CV.out.mono ?_
    rintro e w1 ⟨rfl, hb⟩
    have HB := Lib.hid hb
    clear hb CV
    go_wp2_with fail
    go_ret3
    exact TriPost.nothing rfl HB.out

set_option maxHeartbeats 2000000 in
theorem rgreatest_any (A : Option Addr) (n c : Nat) (o : Nat → Int) (A2 : Option Addr) (m c2 : Nat) (R : Nat → Re.Rt) (w : World) (hn : n ≤ 9223372036854775807) (hm : m ≤ 9223372036854775807)
    (h : Nums w w.heap.size A n o) (h2 : Rets w w.heap.size A2 m R) :
    Calls Try.prog 15 #[.slice A n c, .slice A2 m c2] w (TriPost n (Re.sev (Re.verr n o m R) (Re.greatest n o m R)) (Re.sop (Re.verr n o m R) (Re.greatest n o m R)) w) := by
  have CV := Lib.hid (rvalidate_any A n c o A2 m c2 R w hn hm h h2)
  obtain ⟨V, hV⟩ : ∃ V, Re.verr n o m R = V := ⟨_, rfl⟩
  rw [hV] at CV ⊢
  by_cases hv : V = 0
  · subst hv
    have CT : Hid (∀ W : World, Below w.heap.size w W → Calls Try.prog 34 #[.slice A n c, .slice A2 m c2] W (fun e w' => ∃ g cap, e = .returned (.slice (some ⟨g, 0, none⟩) n cap) ∧ W.heap.size ≤ g ∧ Nums w' w'.heap.size (some ⟨g, 0, none⟩) n (Re.top o m R) ∧ Below W.heap.size W w')) := Lib.hid fun W hb =>
      rtop_any A n c o A2 m c2 R W hV ((h.below hb).mono hb.size) ((h2.below hb).mono hb.size)
    have CS : Hid (∀ (W : World) (A3 : Option Addr) (c3 : Nat), Below w.heap.size w W → Nums W W.heap.size A3 n (Re.top o m R) → Calls Try.prog 33 #[.slice A n c, .slice A2 m c2, .slice A3 n c3] W (TriPost n (Re.ser (Re.greatest n o m R)) (Re.greatest n o m R) W)) := Lib.hid fun W A3 c3 hb h3 =>
      from_any A n c o A2 m c2 R A3 c3 (Re.top o m R) W hV ((h.below hb).mono hb.size) ((h2.below hb).mono hb.size) h3 (fun i hi => by have := Re.top_bound hV i hi; omega)
    rw [show Re.sev 0 (Re.greatest n o m R) = Re.ser (Re.greatest n o m R) from if_pos rfl, show Re.sop 0 (Re.greatest n o m R) = Re.greatest n o m R from if_pos rfl]
    obtain ⟨s, hs⟩ : ∃ s, Re.greatest n o m R = s := ⟨_, rfl⟩
    rw [hs] at CS ⊢
    clear hs hV h h2
    go_enter Try.func15, Try.ntmps15
    go_wp2_with fail
    refine CV.out.mono ?_
    rintro e w1 ⟨rfl, hb⟩
    have HB := Lib.hid hb
    clear hb CV
    go_wp2_with fail
    refine (CT.out _ HB.out).mono ?_
    rintro e w2 ⟨g, cap, rfl, hg, ht, hb⟩
    replace HB : Hid (Below w.heap.size w w2) := Lib.hid (HB.out.trans (hb.mono HB.out.size))
    have HTT := Lib.hid ht
    clear hb ht CT
    go_wp2_with fail
    refine (CS.out _ _ _ HB.out HTT.out).mono ?_
    rintro e w2 ⟨X, mm, c4, rfl, hb, hmm, hnx, hfr⟩
    have HP : Hid (TriPost n (Re.ser s) s w (.returned (.tuple #[.slice X mm c4, .int .i64 (Re.rnd s), .int .i64 (Re.ser s)])) w2) := Lib.hid ⟨X, mm, c4, rfl, HB.out.trans (hb.mono HB.out.size), hmm, hnx, fun ad h => Nat.le_trans HB.out.size (hfr ad h)⟩
    clear hb hmm hnx hfr
    go_wp2_with fail
    go_ret3
    exact HP.out
  · have hne : (V != 0) = true := by rw [bne_iff_ne]; exact hv
    rw [show Re.sev V (Re.greatest n o m R) = V from if_neg hv, show Re.sop V (Re.greatest n o m R) = none from if_neg hv]
    clear hV h h2
    go_enter Try.func15, Try.ntmps15
    go_wp2_with fail
    refine CV.out.mono ?_
    rintro e w1 ⟨rfl, hb⟩
    have HB := Lib.hid hb
    clear hb CV
    go_wp2_with fail
    go_ret3
    exact TriPost.nothing rfl HB.out
end Go.Proofs.Ytdfajopniflaaaa
