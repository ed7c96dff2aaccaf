/- The reference's Size, nodes and Expr. Write-backs: the program's check. -/
import Derived.Test.YtlbkhhbbkedhkaaGreatDoorMa06
namespace Go.Proofs.YtlbkhhbbkedhkaaGreatDoor
open Go.RowKit
set_option linter.unusedVariables false

def SizePost (e : Ex) (w : World) (r : Ending) (w' : World) : Prop := r = .returned (.int .i64 (min e.size 301 : Nat)) ∧ Below w.heap.size w w'

set_option maxRecDepth 100000 in
set_option maxHeartbeats 2000000 in
theorem size_any (e : Ex) : ∀ (a : EA) (w : World), ExAt w w.heap.size e a → Calls Tryz.prog 114 #[.agg (e.cells a)] w (SizePost e w) := by
  induction e with
  | bot => exact fun a w h => h.elim
  | mk op name nw ws lo hi na xs ih =>
    intro a w hx
    have IH := Lib.hid ih
    have HX := Lib.hid hx
    have HXI := Lib.hid ex_info
    obtain ⟨_, ⟨hna, _⟩, _, _⟩ := hx
    obtain ⟨Aw, cw, Aa, ca⟩ := a
    have HD : Hid ((Ex.mk op name nw ws lo hi na xs).size = 1 + sumN (fun i => (xs i).size) na) := Lib.hid rfl
    clear ih
    unfold Ex.cells Ex.row
    simp only
    unfold big at hna
    go_enter Tryz.func114, Tryz.ntmps114
    go_upto_region 1 with (fail)
    have HB : Hid (Below w.heap.size w (w.alloc (.cells #[.int .i64 op, .string name, .slice Aw nw cw, .int .i64 lo, .int .i64 hi, .slice Aa na ca] 43))) := Lib.hid ((Below.refl _ _).alloc (Nat.le_refl _) _)
    have HE := Lib.hid (Has.new w #[.int .i64 op, .string name, .slice Aw nw cw, .int .i64 lo, .int .i64 hi, .slice Aa na ca] 43)
    obtain ⟨W, hW⟩ : ∃ W, w.alloc (.cells #[.int .i64 op, .string name, .slice Aw nw cw, .int .i64 lo, .int .i64 hi, .slice Aa na ca] 43) = W := ⟨_, rfl⟩
    rw [hW] at HB HE ⊢
    clear hW
    go_wp2_with fail
    go_loopw [3, 4] (fun s i wr => ∃ k n : Nat, k ≤ na ∧ i = .int .i64 k ∧ s = .int .i64 n ∧ n ≤ 601 ∧ Hid (min n 301 = min (1 + sumN (fun i => (xs i).size) k) 301) ∧ Hid (Below w.heap.size w wr) ∧ Hid (Has wr w.heap.size #[.int .i64 op, .string name, .slice Aw nw cw, .int .i64 lo, .int .i64 hi, .slice Aa na ca] 43)) (fun _ i _ => na - (intOf i).toNat)
    case atStart => exact ⟨0, 1, Nat.zero_le _, rfl, rfl, by omega, Lib.hid rfl, HB, HE⟩
    case round =>
      clear HB HE
      obtain ⟨k, n, hk, rfl, rfl, hn6, HM, HB, HE⟩ := hrel
      obtain ⟨e0, e1, e2⟩ := HE.out.rules
      by_cases hlt : k < na
      · have hk0 : (0 : Int) ≤ k := by omega
        have hk1 : (k : Int) < na := by omega
        by_cases hn3 : n ≤ 300
        · have hn3' : (n : Int) ≤ 300 := by omega
          obtain ⟨pa, bb, o, hAa, hxk, hrg⟩ := HX.out.later HB.out hlt
          subst hAa
          have HRG := Lib.hid hrg
          have HCALL := Lib.hid (IH.out k pa wr hxk)
          obtain ⟨sz, hsz⟩ : ∃ sz, min (xs k).size 301 = sz := ⟨_, rfl⟩
          unfold SizePost at HCALL
          rw [hsz] at HCALL
          have hs301 : sz ≤ 301 := by omega
          have HM2 : Hid (min (n + sz) 301 = min (1 + sumN (fun i => (xs i).size) (k + 1)) 301) := Lib.hid (by rw [sumN]; have := HM.out; omega)
          clear hxk hrg hsz
          go_wp2_with ((refine wpList_load_mid ?_ 43 (.tmp 20) ?_ bb (o + k * 6) ?_ _ _ HRG.out Tryz.underlying43 ?_ (by rw [Array.length_toList, Ex.cells_size]; exact HXI.out) ?_; rfl; rfl; rfl; rfl))
          refine HCALL.out.mono ?_
          rintro e w5 ⟨rfl, hb5⟩
          replace HB := Lib.hid (HB.out.trans (hb5.mono HB.out.size))
          replace HE := Lib.hid (HE.out.below hb5 e2)
          clear hb5 HCALL HRG e0 e1 e2
          go_wp2_with fail
          go_roundw
          case rel => exact ⟨k + 1, n + sz, by omega, by go_num, by go_num, by omega, HM2, HB, HE⟩
          case measure => simp [intOf]; omega
        · have hn3' : (300 : Int) < n := by omega
          have HR : Hid (min (Ex.mk op name nw ws lo hi na xs).size 301 = 301) := Lib.hid (by
            rw [HD.out]
            have h5 : sumN (fun i => (xs i).size) k + (xs k).size ≤ sumN (fun i => (xs i).size) na := sumN_le (f := fun i => (xs i).size) hlt
            have := HM.out
            omega)
          have hmin : min (n : Int) 301 = 301 := by omega
          go_wp2_with fail
          go_ret
          exact ⟨by rw [HR.out]; rfl, HB.out⟩
      · have hkn : k = na := by omega
        subst hkn
        have hdd : decide ((k : Int) < k) = false := by rw [decide_eq_false_iff_not]; omega
        have HR : Hid (((min (Ex.mk op name nw ws lo hi k xs).size 301 : Nat) : Int) = min (n : Int) 301) := Lib.hid (by
          rw [HD.out]
          have := HM.out
          omega)
        go_wp2_with fail
        go_ret
        exact ⟨by rw [HR.out]; rfl, HB.out⟩

set_option maxRecDepth 100000 in
set_option maxHeartbeats 2000000 in
theorem nodes_any (e : Ex) : ∀ (a : EA) (w : World), ExAt w w.heap.size e a → Calls Tryz.prog 115 #[.agg (e.cells a)] w (IffPost (e.all nodeR) w) := by
  induction e with
  | bot => exact fun a w h => h.elim
  | mk op name nw ws lo hi na xs ih =>
    intro a w hx
    have IH := Lib.hid ih
    have HX := Lib.hid hx
    have HXI := Lib.hid ex_info
    obtain ⟨_, ⟨hna, _⟩, _, _⟩ := hx
    obtain ⟨Aw, cw, Aa, ca⟩ := a
    have HD : Hid ((Ex.mk op name nw ws lo hi na xs).all nodeR ↔ nodeR (Ex.mk op name nw ws lo hi na xs) ∧ ∀ i, i < na → (xs i).all nodeR) := Lib.hid Iff.rfl
    clear ih
    unfold Ex.cells Ex.row
    simp only
    unfold big at hna
    go_enter Tryz.func115, Tryz.ntmps115
    go_upto_region 1 with (fail)
    have HB : Hid (Below w.heap.size w (w.alloc (.cells #[.int .i64 op, .string name, .slice Aw nw cw, .int .i64 lo, .int .i64 hi, .slice Aa na ca] 43))) := Lib.hid ((Below.refl _ _).alloc (Nat.le_refl _) _)
    have HE := Lib.hid (Has.new w #[.int .i64 op, .string name, .slice Aw nw cw, .int .i64 lo, .int .i64 hi, .slice Aa na ca] 43)
    obtain ⟨W, hW⟩ : ∃ W, w.alloc (.cells #[.int .i64 op, .string name, .slice Aw nw cw, .int .i64 lo, .int .i64 hi, .slice Aa na ca] 43) = W := ⟨_, rfl⟩
    rw [hW] at HB HE ⊢
    clear hW
    have HNO := Lib.hid (rnode_any op name nw ws lo hi na xs ⟨Aw, cw, Aa, ca⟩ W (HX.out.below HB.out HB.out.size))
    unfold Ex.row at HNO
    simp only at HNO
    obtain ⟨ND, hND⟩ : ∃ P, nodeR (Ex.mk op name nw ws lo hi na xs) = P := ⟨_, rfl⟩
    rw [hND] at HNO HD
    clear hND
    obtain ⟨e0, e1, e2⟩ := HE.out.rules
    go_wp2_with fail
    refine HNO.out.mono ?_
    rintro e w2 ⟨b, rfl, hb, hb5⟩
    replace HB := Lib.hid (HB.out.trans (hb5.mono HB.out.size))
    replace HE := Lib.hid (HE.out.below hb5 e2)
    have HBN := Lib.hid hb
    clear hb hb5 HNO e0 e1 e2
    cases b with
    | false =>
      go_wp2_with fail
      go_ret
      exact IffPost.no (fun c => by have := HBN.out.2 (HD.out.1 c).1; simp at this) HB.out
    | true =>
      have hnd : ND := HBN.out.1 (by trivial)
      have HND := Lib.hid hnd
      clear hnd HBN
      go_wp2_with fail
      go_loopw [3] (fun i wr => ∃ k : Nat, k ≤ na ∧ i = .int .i64 k ∧ Hid (Below w.heap.size w wr) ∧ Hid (Has wr w.heap.size #[.int .i64 op, .string name, .slice Aw nw cw, .int .i64 lo, .int .i64 hi, .slice Aa na ca] 43) ∧ Hid (∀ i, i < k → (xs i).all nodeR)) (fun i _ => na - (intOf i).toNat)
      case atStart => exact ⟨0, Nat.zero_le _, rfl, HB, HE, Lib.hid fun i hi => by omega⟩
      case round =>
        clear HB HE
        obtain ⟨k, hk, rfl, HB, HE, HA⟩ := hrel
        obtain ⟨e0, e1, e2⟩ := HE.out.rules
        by_cases hlt : k < na
        · obtain ⟨pa, bb, o, hAa, hxk, hrg⟩ := HX.out.later HB.out hlt
          subst hAa
          have HRG := Lib.hid hrg
          have hk0 : (0 : Int) ≤ k := by omega
          have hk1 : (k : Int) < na := by omega
          have HCALL := Lib.hid (IH.out k pa wr hxk)
          clear hxk hrg
          go_wp2_with ((refine wpList_load_mid ?_ 43 (.tmp 17) ?_ bb (o + k * 6) ?_ _ _ HRG.out Tryz.underlying43 ?_ (by rw [Array.length_toList, Ex.cells_size]; exact HXI.out) ?_; rfl; rfl; rfl; rfl))
          refine HCALL.out.mono ?_
          rintro e w5 ⟨b, rfl, hb, hb5⟩
          replace HB := Lib.hid (HB.out.trans (hb5.mono HB.out.size))
          replace HE := Lib.hid (HE.out.below hb5 e2)
          have HBB := Lib.hid hb
          clear hb hb5 HCALL HRG e0 e1 e2
          cases b with
          | false =>
            go_wp2_with fail
            go_ret
            exact IffPost.no (fun c => by have := HBB.out.2 ((HD.out.1 c).2 k hlt); simp at this) HB.out
          | true =>
            have hall : (xs k).all nodeR := HBB.out.1 (by trivial)
            go_wp2_with fail
            go_roundw
            case rel => exact ⟨k + 1, by omega, by go_num, HB, HE, Lib.hid fun i hi => by
              by_cases e : i = k
              · subst e; exact hall
              · exact HA.out i (by omega)⟩
            case measure => simp [intOf]; omega
        · have hkn : k = na := by omega
          subst hkn
          have hdd : decide ((k : Int) < k) = false := by rw [decide_eq_false_iff_not]; omega
          go_wp2_with fail
          go_ret
          exact IffPost.yes (HD.out.2 ⟨HND.out, HA.out⟩) HB.out

set_option maxRecDepth 100000 in
set_option maxHeartbeats 2000000 in
theorem rexpr_any (e : Ex) (a : EA) (w : World) (hx : ExAt w w.heap.size e a) : Calls Tryz.prog 87 #[.agg (e.cells a)] w (IffPost e.ok w) := by
  have HX := Lib.hid hx
  have HQR := Lib.hid (Ex.all_same e)
  have CD := Lib.hid (deeper_any e)
  have CS := Lib.hid (size_any e)
  have CN := Lib.hid (nodes_any e)
  cases e with
  | bot => exact hx.elim
  | mk op name nw ws lo hi na xs =>
  obtain ⟨Aw, cw, Aa, ca⟩ := a
  clear hx
  obtain ⟨E, hE⟩ : ∃ E, Ex.mk op name nw ws lo hi na xs = E := ⟨_, rfl⟩
  have HCE : Hid (E.cells ⟨Aw, cw, Aa, ca⟩ = #[.int .i64 op, .string name, .slice Aw nw cw, .int .i64 lo, .int .i64 hi, .slice Aa na ca]) := Lib.hid (by rw [← hE]; rfl)
  rw [hE] at HX HQR CD CS CN ⊢
  clear hE
  rw [HCE.out]
  go_enter Tryz.func87, Tryz.ntmps87
  go_upto_region 1 with (fail)
  have HB : Hid (Below w.heap.size w (w.alloc (.cells #[.int .i64 op, .string name, .slice Aw nw cw, .int .i64 lo, .int .i64 hi, .slice Aa na ca] 43))) := Lib.hid ((Below.refl _ _).alloc (Nat.le_refl _) _)
  have HE := Lib.hid (Has.new w #[.int .i64 op, .string name, .slice Aw nw cw, .int .i64 lo, .int .i64 hi, .slice Aa na ca] 43)
  obtain ⟨W, hW⟩ : ∃ W, w.alloc (.cells #[.int .i64 op, .string name, .slice Aw nw cw, .int .i64 lo, .int .i64 hi, .slice Aa na ca] 43) = W := ⟨_, rfl⟩
  rw [hW] at HB HE ⊢
  clear hW
  have C1 := Lib.hid (CD.out ⟨Aw, cw, Aa, ca⟩ 16 W (by omega) (HX.out.below HB.out HB.out.size))
  rw [HCE.out] at C1
  obtain ⟨e0, e1, e2⟩ := HE.out.rules
  go_wp2_with fail
  refine C1.out.mono ?_
  rintro e w2 ⟨b, rfl, hb, hb5⟩
  replace HB := Lib.hid (HB.out.trans (hb5.mono HB.out.size))
  replace HE := Lib.hid (HE.out.below hb5 e2)
  have HBD := Lib.hid hb
  clear hb hb5 C1 e0 e1 e2
  obtain ⟨e0, e1, e2⟩ := HE.out.rules
  cases b with
  | true =>
    go_wp2_with fail
    go_ret
    exact IffPost.no (fun c => by have := HBD.out.1 (by trivial); have := c.2.1; omega) HB.out
  | false =>
    have C2 := Lib.hid (CS.out ⟨Aw, cw, Aa, ca⟩ w2 (HX.out.below HB.out HB.out.size))
    unfold SizePost at C2
    rw [HCE.out] at C2
    obtain ⟨sz, hsz⟩ : ∃ sz, min E.size 301 = sz := ⟨_, rfl⟩
    rw [hsz] at C2
    have HSZ := Lib.hid hsz
    clear hsz
    by_cases h3 : sz ≤ 300
    · have h3' : (sz : Int) ≤ 300 := by omega
      go_wp2_with fail
      refine C2.out.mono ?_
      rintro e w3 ⟨rfl, hb5⟩
      replace HB := Lib.hid (HB.out.trans (hb5.mono HB.out.size))
      replace HE := Lib.hid (HE.out.below hb5 e2)
      clear hb5 C2 e0 e1 e2
      obtain ⟨e0, e1, e2⟩ := HE.out.rules
      have C3 := Lib.hid (CN.out ⟨Aw, cw, Aa, ca⟩ w3 (HX.out.below HB.out HB.out.size))
      rw [HCE.out] at C3
      go_wp2_with fail
      refine C3.out.mono ?_
      rintro e w4 ⟨b, rfl, hb, hb5⟩
      replace HB := Lib.hid (HB.out.trans (hb5.mono HB.out.size))
      have HBN := Lib.hid hb
      have hs3 : E.size ≤ 300 := by have := HSZ.out; omega
      have hd3 : E.depth ≤ 16 := by
        by_cases c : 16 < E.depth
        · have := HBD.out.2 c; simp at this
        · omega
      clear hb hb5 C3 e0 e1 e2
      go_wp2_with fail
      go_ret
      exact ⟨b, rfl, HBN.out.trans ⟨fun c => ⟨hs3, hd3, (HQR.out hs3).2 c⟩, fun c => (HQR.out hs3).1 c.2.2⟩, HB.out⟩
    · have h3' : (300 : Int) < sz := by omega
      go_wp2_with fail
      refine C2.out.mono ?_
      rintro e w3 ⟨rfl, hb5⟩
      replace HB := Lib.hid (HB.out.trans (hb5.mono HB.out.size))
      clear hb5 C2 e0 e1 e2
      go_wp2_with fail
      go_ret
      exact IffPost.no (fun c => by have := c.1; have := HSZ.out; omega) HB.out
end Go.Proofs.YtlbkhhbbkedhkaaGreatDoor
namespace Go.Proofs.YtlbkhhbbkedhkaaGreatDoor
open Go.RowKit
set_option linter.unusedVariables false

def Wb.n : Wb → Nat
  | .bot => 0
  | .mk _ _ n _ => n
def Wb.us : Wb → Nat → Wb
  | .bot => fun _ => .bot
  | .mk _ _ _ us => us
def Wb.name : Wb → ByteArray
  | .bot => ByteArray.empty
  | .mk name _ _ _ => name
def Wb.e : Wb → Ex
  | .bot => .bot
  | .mk _ e _ _ => e
def Wb.count : Wb → Nat
  | .bot => 1
  | .mk _ _ n us => 1 + sumN (fun i => (us i).count) n
def Wb.depth : Wb → Nat
  | .bot => 1
  | .mk _ _ n us => 1 + maxN (fun i => (us i).depth) n
def Wb.all : Wb → Prop
  | .bot => False
  | .mk name e n us => nameB name = true ∧ e.ok ∧ ∀ i, i < n → (us i).all
def countL (n : Nat) (us : Nat → Wb) : Nat := sumN (fun i => (us i).count) n
def depthL (n : Nat) (us : Nat → Wb) : Nat := maxN (fun i => (us i).depth) n
def allL (n : Nat) (us : Nat → Wb) : Prop := ∀ i, i < n → (us i).all
/-- what is so of a list if it is so of the lists of its elements -/
theorem Wb.recL {M : Wb → Prop} (mk : ∀ (name : ByteArray) (e : Ex) (n : Nat) (us : Nat → Wb), (∀ i, i < n → M (us i)) → M (.mk name e n us)) (bot : M (.mk ByteArray.empty .bot 0 fun _ => .bot) → M .bot) (b : Wb) : M b := by
  induction b with
  | bot => exact bot (mk _ _ _ _ fun i hi => by omega)
  | mk name e n us ih => exact mk name e n us fun i _ => ih i
theorem Wb.parts (b : Wb) : b.count = 1 + countL b.n b.us ∧ b.depth = 1 + depthL b.n b.us ∧ (b.all ↔ nameB b.name = true ∧ b.e.ok ∧ allL b.n b.us) := by
  cases b
  · exact ⟨rfl, rfl, fun h => h.elim, fun h => h.2.1.2.2.elim⟩
  · exact ⟨rfl, rfl, Iff.rfl⟩
def Wb.cells (b : Wb) (a : WA) : Array Value := #[.string b.name, b.e.cell a.ea 0, b.e.cell a.ea 1, b.e.cell a.ea 2, b.e.cell a.ea 3, b.e.cell a.ea 4, b.e.cell a.ea 5, .slice a.A b.n a.c]
theorem Wb.cells_get (b : Wb) (a : WA) (k : Nat) (hk : k < 8) : (b.cells a).toList[k]? = some (b.cell a k) := by
  cases b
  all_goals
    match k, hk with
    | 0, _ | 1, _ | 2, _ | 3, _ | 4, _ | 5, _ | 6, _ | 7, _ => rfl
    | k + 8, h => omega
theorem Wb.cells_one (b : Wb) (a : WA) : (b.cells a).toList.all (·.oneCell') = true := by
  cases b with
  | bot => rfl
  | mk name e n us => cases e <;> rfl
theorem Wb.range {w : World} {b o : Nat} {e : Wb} {a : WA} (h : ∀ k, k < 8 → w.cell? ⟨b, o + k, none⟩ = some (e.cell a k)) : w.rangeAt b o (e.cells a).toList := fun k v hk => by
  have h8 : k < 8 := by
    rcases Nat.lt_or_ge k 8 with h | h
    · exact h
    · rw [List.getElem?_eq_none (by simpa [Wb.cells] using h)] at hk; cases hk
  rw [Wb.cells_get e a k h8] at hk
  injection hk with hk
  rw [← hk]
  exact h k h8
theorem Ex.cells_is (e : Ex) (a : EA) : #[e.cell a 0, e.cell a 1, e.cell a 2, e.cell a 3, e.cell a 4, e.cell a 5] = e.cells a := by cases e <;> rfl
theorem WbAt.parts {w : World} {B : Nat} {b : Wb} {a : WA} (h : WbAt w B b a) : ExAt w B b.e a.ea ∧ WbsAt w B a.A b.n b.us := by
  cases b with
  | bot => exact h.elim
  | mk name e n us => exact ⟨h.2.1, h.1, h.2.2⟩
/-- the write-backs of a list -/
theorem WbsAt.args {w : World} {B : Nat} {A : Option Addr} {n : Nat} {us : Nat → Wb} (h : WbsAt w B A n us) :
    ∃ P : Nat → WA, ∀ i, i < n → (ExAt w B (us i).e (P i).ea ∧ WbsAt w B (P i).A (us i).n (us i).us) ∧ ∃ b o, A = some ⟨b, o, none⟩ ∧ b < B ∧ w.rangeAt b (o + i * 8) ((us i).cells (P i)).toList := by
  obtain ⟨_, P, hc, he⟩ := h
  refine ⟨P, fun i hi => ⟨(he i hi).parts, ?_⟩⟩
  obtain ⟨b, o, e, hb, hcc⟩ := Cells.elem (F := fun i k => (us i).cell (P i) k) (by omega) hc hi
  exact ⟨b, o, e, hb, Wb.range hcc⟩
theorem Wb.cells_ex (b : Wb) (a : WA) : ∃ x0 x1 x2 x3 x4 x5, b.cells a = #[.string b.name, x0, x1, x2, x3, x4, x5, .slice a.A b.n a.c] ∧ #[x0, x1, x2, x3, x4, x5] = b.e.cells a.ea ∧ (#[.string b.name, x0, x1, x2, x3, x4, x5, .slice a.A b.n a.c] : Array Value).toList.all (·.oneCell') = true := ⟨_, _, _, _, _, _, rfl, Ex.cells_is _ _, b.cells_one a⟩
theorem range_six {w : World} {b o : Nat} {x0 x1 x2 x3 x4 x5 : Value} (h0 : w.cell? ⟨b, o, none⟩ = some x0) (h1 : w.cell? ⟨b, o + 1, none⟩ = some x1) (h2 : w.cell? ⟨b, o + 2, none⟩ = some x2) (h3 : w.cell? ⟨b, o + 3, none⟩ = some x3) (h4 : w.cell? ⟨b, o + 4, none⟩ = some x4) (h5 : w.cell? ⟨b, o + 5, none⟩ = some x5) : w.rangeAt b o [x0, x1, x2, x3, x4, x5] := fun k v hk => by
  match k, hk with
  | 0, hk | 1, hk | 2, hk | 3, hk | 4, hk | 5, hk => simp at hk; subst hk; assumption
  | k + 6, hk => simp at hk
section
variable {P : Program} {ops : Array Oper} {rest : List Oper} {o : Oper} {a : Act} {w : World} {Q : Exit → Act → World → Prop}
/-- a struct out of the middle of a block, at an operation that is guarded and wanted -/
theorem wpList_load_midw (hgd : Region.wanted o (yielded ops a.tmps) = true) (ty : TypeId) (x : Operand) (ho : o.op = .load ty x)
    (b f : Nat) (hx : a.eval x = .pointer (some ⟨b, f, none⟩)) (cs : List Value) (d : TypeDesc) (hc : w.rangeAt b f cs)
    (hu : P.underlying ty = some d) (hd : d.isRow = true) (hi : (P.info? ty).map (·.size) = some cs.length)
    (h : wpList P ops Q rest (a.put o.dst (.agg cs.toArray)) w) : wpList P ops Q (o :: rest) a w :=
  wpList_step fun K hK => by
    simp only [hgd, if_true]
    exact wp_load_mid ty x ho b f hx cs d hc hu hd hi (hK _ _ h)
end
set_option maxRecDepth 100000 in
theorem wb_info : (Tryz.prog.info? 97).map (·.size) = some 8 := by kernel_rfl

def BacksP (n : Nat) (us : Nat → Wb) (d c0 : Nat) : Prop := c0 + countL n us ≤ 40 ∧ d + depthL n us ≤ 17 ∧ allL n us
def BacksPost (n : Nat) (us : Nat → Wb) (d c0 c : Nat) (w : World) (r : Ending) (w' : World) : Prop := ∃ (b : Bool) (m : Nat), r = .returned (.bool b) ∧ (b = true ↔ BacksP n us d c0) ∧ (b = true → m = c0 + countL n us) ∧ m ≤ 41 ∧ Has w' c #[.int .i64 m] 3 ∧ Keeps c w w'

set_option maxRecDepth 100000 in
set_option maxHeartbeats 4000000 in
theorem backs_any (b : Wb) : ∀ (A : Option Addr) (ca d c0 c : Nat) (w : World), Tab w → WbsAt w c A b.n b.us → Has w c #[.int .i64 c0] 3 → 0 < c → c0 ≤ 40 → d ≤ 17 →
    Calls Tryz.prog 100 #[.slice A b.n ca, .int .i64 d, .pointer (some ⟨c, 0, none⟩)] w (BacksPost b.n b.us d c0 c w) := by
  induction b using Wb.recL with
  | bot h => exact h
  | mk name e n us ih =>
    intro A ca d c0 c w ht hx hc hcp hc0 hd
    show Calls Tryz.prog 100 #[.slice A n ca, .int .i64 d, .pointer (some ⟨c, 0, none⟩)] w (BacksPost n us d c0 c w)
    have hx : WbsAt w c A n us := hx
    have IH := Lib.hid ih
    have HTB := Lib.hid ht
    have HX := Lib.hid hx
    have HC := Lib.hid hc
    have HWI := Lib.hid wb_info
    have hn := hx.1
    have hcl := hc.lt
    clear ih ht hx hc
    unfold big at hn
    go_enter Tryz.func100, Tryz.ntmps100
    go_wp2_with fail
    go_loopw [11] (fun i wr => ∃ k m : Nat, k ≤ n ∧ i = .int .i64 k ∧ m = c0 + countL k us ∧ m ≤ 40 ∧ Hid (Has wr c #[.int .i64 m] 3) ∧ Hid (Keeps c w wr) ∧ Hid (∀ i, i < k → d + (us i).depth ≤ 17 ∧ (us i).all)) (fun i _ => n - (intOf i).toNat)
    case atStart => exact ⟨0, c0, Nat.zero_le _, rfl, rfl, hc0, HC, Lib.hid (Keeps.refl c w), Lib.hid fun i hi => by omega⟩
    case round =>
      clear HC
      obtain ⟨k, m, hk, rfl, hm, hm4, HC, HK, HA⟩ := hrel
      by_cases hlt : k < n
      · have hbw : Below c w wr := HK.out.below (Nat.le_refl c) (Nat.le_of_lt hcl)
        obtain ⟨P, hP⟩ := HX.out.args
        obtain ⟨⟨hxe, hxu⟩, bb, o, hAa, hbb, hrg⟩ := hP k hlt
        subst hAa
        have HRG : Hid (wr.rangeAt bb (o + k * 8) ((us k).cells (P k)).toList) := Lib.hid fun j v hj => by rw [hbw.cell (p := ⟨bb, o + k * 8 + j, none⟩) hbb]; exact hrg j v hj
        have HI := Lib.hid (IH.out k hlt)
        have hk0 : (0 : Int) ≤ k := by omega
        have hk1 : (k : Int) < n := by omega
        have HSM : Hid (c0 + countL (k + 1) us = m + (us k).count) := Lib.hid (by rw [countL, sumN, hm, countL]; omega)
        obtain ⟨x0, x1, x2, x3, x4, x5, hcs, hce, hc1⟩ := Wb.cells_ex (us k) (P k)
        rw [hcs] at HRG
        have HC1 := Lib.hid hc1
        have HXE : Hid (ExAt w c (us k).e (P k).ea ∧ WbsAt w c (P k).A (us k).n (us k).us) := Lib.hid ⟨hxe, hxu⟩
        have HCE := Lib.hid hce
        have HPT := Lib.hid (us k).parts
        obtain ⟨nm, hnm⟩ : ∃ z, (us k).name = z := ⟨_, rfl⟩
        obtain ⟨ye, hye⟩ : ∃ z, (us k).e = z := ⟨_, rfl⟩
        obtain ⟨yn, hyn⟩ : ∃ z, (us k).n = z := ⟨_, rfl⟩
        obtain ⟨yu, hyu⟩ : ∃ z, (us k).us = z := ⟨_, rfl⟩
        obtain ⟨⟨pe, pA, pc⟩, hpa⟩ : ∃ z, P k = z := ⟨_, rfl⟩
        rw [hnm, hye, hyn, hyu] at HPT
        rw [hnm, hyn, hpa] at HRG HC1
        rw [hye, hyn, hyu, hpa] at HXE
        rw [hye, hpa] at HCE
        rw [hyn, hyu] at HI
        try simp only at HRG HXE HCE HC1
        have HM := Lib.hid hm
        have hcr := HC.out.lt
        have HUK : Hid (∃ z, us k = z ∧ z.count = 1 + countL yn yu ∧ z.depth = 1 + depthL yn yu ∧ (z.all ↔ nameB nm = true ∧ ye.ok ∧ allL yn yu)) := Lib.hid ⟨_, rfl, HPT.out⟩
        obtain ⟨uk, huk, hcn, hdp, hal⟩ := HUK.out
        rw [huk] at HSM
        have HUKE := Lib.hid huk
        have HUC := Lib.hid (And.intro hcn (And.intro hdp hal))
        clear hcs hce hc1 hnm hye hyn hyu hpa hP hxe hxu hrg hbw hm HPT HUK huk hcn hdp hal
        go_upto_region 4 with (first
          | (refine wpList_load_mid ?_ 97 (.tmp 13) ?_ bb (o + k * 8) ?_ _ _ HRG.out Tryz.underlying97 ?_ HWI.out ?_; rfl; rfl; rfl; rfl)
          | (refine wpList_store_has ?_ 97 (.tmp 8) (.tmp 14) ?_ wr.heap.size ?_ #[.string nm, x0, x1, x2, x3, x4, x5, .slice pA yn pc] ?_ _ _ (Has.new wr _ _) HWI.out ?_ ?_ ?_; rfl; rfl; rfl; rfl; rfl; exact HC1.out; intro w4 hh4 hl4))
        have hb4 : Below wr.heap.size wr w4 := ((Below.refl _ _).alloc (Nat.le_refl _) _).trans (hl4.below (fun k hk => by omega) (by simp))
        have HY := Lib.hid hh4
        have HK4 := Lib.hid (HK.out.trans (Keeps.of_below hb4 c))
        have HC4 := Lib.hid (HC.out.below hb4 hcr)
        obtain ⟨G, hG⟩ : ∃ G, wr.heap.size = G := ⟨_, rfl⟩
        rw [hG] at HY ⊢
        have hGc : c < G := by omega
        clear hG hb4 hh4 hl4 HRG HC HK HC1
        obtain ⟨q0, q1, q2⟩ := HC4.out.rules
        have hne : G ≠ c := by omega
        have hne' : c ≠ G := by omega
        go_upto_region 5 with (fail)
        obtain ⟨m1, hm1⟩ : ∃ m1, m + 1 = m1 := ⟨_, rfl⟩
        have hY1 : Hid (Has (w4.setCell ⟨c, 0, none⟩ (.int .i64 ((m : Int) + 1))) G #[.string nm, x0, x1, x2, x3, x4, x5, .slice pA yn pc] 97) := Lib.hid (HY.out.far hne _)
        have hC1 : Hid (Has (w4.setCell ⟨c, 0, none⟩ (.int .i64 ((m : Int) + 1))) c #[.int .i64 m1] 3) := Lib.hid (by have := HC4.out.put 0 (.int .i64 ((m : Int) + 1)); rw [← hm1]; exact this)
        have hK1 : Hid (Keeps c w (w4.setCell ⟨c, 0, none⟩ (.int .i64 ((m : Int) + 1)))) := Lib.hid (HK4.out.put 0 _)
        obtain ⟨W, hW⟩ : ∃ W, w4.setCell ⟨c, 0, none⟩ (.int .i64 ((m : Int) + 1)) = W := ⟨_, rfl⟩
        rw [hW] at hY1 hC1 hK1 ⊢
        clear hW HY HC4 HK4 q0 q1 q2
        obtain ⟨q0, q1, q2⟩ := hC1.out.rules
        obtain ⟨e0, e1, e2⟩ := hY1.out.rules
        by_cases h1 : 16 < d
        · have h1' : (16 : Int) < d := by omega
          go_wp2_with fail
          go_ret
          exact ⟨false, m1, rfl, ⟨fun c => (by cases c), fun c => by
            have h7 := c.2.1
            have h9 : (us k).depth ≤ depthL n us := maxN_le (f := fun i => (us i).depth) hlt
            rw [HUKE.out, HUC.out.2.1] at h9
            omega⟩, fun c => (by cases c), by omega, hC1.out, hK1.out⟩
        have h1' : (d : Int) ≤ 16 := by omega
        by_cases h2 : 40 < m1
        · have h2' : (40 : Int) < m1 := by omega
          go_wp2_with fail
          go_ret
          exact ⟨false, m1, rfl, ⟨fun c => (by cases c), fun c => by
            have h7 := c.1
            have h9 : countL k us + (us k).count ≤ countL n us := sumN_le (f := fun i => (us i).count) hlt
            rw [HUKE.out, HUC.out.1] at h9
            have := HM.out
            omega⟩, fun c => (by cases c), by omega, hC1.out, hK1.out⟩
        have h2' : (m1 : Int) ≤ 40 := by omega
        have hbw : Below c w W := hK1.out.below (Nat.le_refl c) (Nat.le_of_lt hcl)
        have HEV := Lib.hid (evalid_any ye pe W (HTB.out.below hbw hcp) (HXE.out.1.below hbw (Nat.le_of_lt q2)))
        rw [← HCE.out] at HEV
        have HRX : Hid (W.rangeAt G 1 [x0, x1, x2, x3, x4, x5]) := Lib.hid (range_six (by rw [hY1.out.cell]; rfl) (by rw [hY1.out.cell]; rfl) (by rw [hY1.out.cell]; rfl) (by rw [hY1.out.cell]; rfl) (by rw [hY1.out.cell]; rfl) (by rw [hY1.out.cell]; rfl))
        have HXI := Lib.hid ex_info
        clear hbw
        cases hb : nameB nm with
        | false =>
          go_wp2_with (first | (go_at_call 68; refine (name_any _ _).mono ?_; rintro e w' ⟨rfl, rfl⟩))
          go_ret
          exact ⟨false, m1, rfl, ⟨fun c => (by cases c), fun c => by
            have h7 := c.2.2 k hlt
            rw [HUKE.out, HUC.out.2.2] at h7
            rw [hb] at h7
            cases h7.1⟩, fun c => (by cases c), by omega, hC1.out, hK1.out⟩
        | true =>
          go_wp2_with (first | (go_at_call 68; refine (name_any _ _).mono ?_; rintro e w' ⟨rfl, rfl⟩) | (refine wpList_load_midw ?_ 43 (.tmp 33) ?_ G 1 ?_ _ _ HRX.out Tryz.underlying43 ?_ HXI.out ?_; rfl; rfl; rfl; rfl))
          refine HEV.out.mono ?_
          rintro e w5 ⟨b, rfl, hbe, hb5⟩
          have HBE := Lib.hid hbe
          replace hK1 := Lib.hid (hK1.out.trans (Keeps.of_below hb5 c))
          replace hC1 := Lib.hid (hC1.out.below hb5 q2)
          replace hY1 := Lib.hid (hY1.out.below hb5 e2)
          have HNM := Lib.hid hb
          clear hbe hb5 HEV HRX q0 q1 q2 e0 e1 e2 hb
          cases b with
          | false =>
            go_wp2_with fail
            go_ret
            exact ⟨false, m1, rfl, ⟨fun c => (by cases c), fun c => by
              have h7 := c.2.2 k hlt
              rw [HUKE.out, HUC.out.2.2] at h7
              have := HBE.out.2 h7.2.1
              cases this⟩, fun c => (by cases c), by omega, hC1.out, hK1.out⟩
          | true =>
            obtain ⟨e0, e1, e2⟩ := hY1.out.rules
            obtain ⟨q0, q1, q2⟩ := hC1.out.rules
            have hbw : Below c w w5 := hK1.out.below (Nat.le_refl c) (Nat.le_of_lt hcl)
            have HCALL := Lib.hid (HI.out pA pc (d + 1) m1 c w5 (HTB.out.below hbw hcp) (HXE.out.2.below hbw (Nat.le_refl c)) hC1.out hcp (by omega) (by omega))
            clear hbw HI
            go_wp2_with fail
            refine HCALL.out.mono ?_
            rintro e w6 ⟨b, m2, rfl, hb1, hb2, hm2, hc6, hk6⟩
            have HBB := Lib.hid (And.intro hb1 hb2)
            replace hK1 := Lib.hid (hK1.out.trans hk6)
            replace hC1 := Lib.hid hc6
            clear hb1 hb2 hc6 hk6 HCALL hY1 e0 e1 e2 q0 q1 q2
            cases b with
            | false =>
              go_wp2_with fail
              go_ret
              exact ⟨false, m2, rfl, ⟨fun c => (by cases c), fun c => by
                have h5 := c.2.2 k hlt
                have h6 := c.1
                have h7 := c.2.1
                have h8 : countL k us + (us k).count ≤ countL n us := sumN_le (f := fun i => (us i).count) hlt
                have h9 : (us k).depth ≤ depthL n us := maxN_le (f := fun i => (us i).depth) hlt
                rw [HUKE.out] at h5 h8 h9
                rw [HUC.out.1] at h8
                rw [HUC.out.2.1] at h9
                have := HM.out
                have := HBB.out.1.2 ⟨by omega, by omega, (HUC.out.2.2.1 h5).2.2⟩
                cases this⟩, fun c => (by cases c), by omega, hC1.out, hK1.out⟩
            | true =>
              have hp := HBB.out.1.1 rfl
              have hm5 := HBB.out.2 rfl
              have HP := Lib.hid hp
              have hye : ye.ok := HBE.out.1 (by trivial)
              clear HBE HBB
              go_wp2_with fail
              go_roundw
              case rel => exact ⟨k + 1, m2, by omega, by go_num, by rw [HSM.out, HUC.out.1]; omega, by have := HP.out.1; omega, hC1, hK1, Lib.hid fun i hi => by
                by_cases e : i = k
                · subst e
                  rw [HUKE.out, HUC.out.2.1, HUC.out.2.2]
                  exact ⟨by have := HP.out.2.1; omega, HNM.out, hye, HP.out.2.2⟩
                · exact HA.out i (by omega)⟩
              case measure => simp [intOf]; omega
      · have hkn : k = n := by omega
        subst hkn
        have hdd : decide ((k : Int) < k) = false := by rw [decide_eq_false_iff_not]; omega
        go_wp2_with fail
        go_ret
        have h9 := maxN_lub (f := fun i => (us i).depth) (m := 17 - d) (n := k) fun i hi => by have := (HA.out i hi).1; show (us i).depth ≤ 17 - d; omega
        exact ⟨true, m, rfl, ⟨fun _ => ⟨by rw [← hm]; exact hm4, by unfold depthL; omega, fun i hi => (HA.out i hi).2⟩, fun _ => rfl⟩, fun _ => hm, by omega, HC.out, HK.out⟩
end Go.Proofs.YtlbkhhbbkedhkaaGreatDoor
