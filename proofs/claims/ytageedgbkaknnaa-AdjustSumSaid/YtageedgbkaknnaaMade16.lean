/- A decision that the deck makes, and 'made' of layer 16: accepted by adjust. -/
import Derived.Test.YtageedgbkaknnaaDeck
import Derived.Test.YtageedgbkaknnaaRAdj
import Derived.Deep.RegionWith
import Derived.Deep.RegionHeld3
namespace Go.Proofs.Ytageedgbkaknnaa
open Go.RowKit

theorem Ad.derr_un (v : Int) (h : 1 ≤ v) (h2 : v < 4) : Ad.derr ⟨v, 0, 0, 0, 0, false⟩ = 0 := by
  unfold Ad.derr
  rw [if_neg (by simp only; omega), if_pos (by simp only; omega), if_pos (by simp)]
theorem Ad.derr_ins (l d f c : Int) (a : Bool) (l0 : -1 ≤ l) (l1 : l ≤ 1073741824) (d0 : 0 ≤ d) (d1 : d ≤ 5000) (f0 : 0 ≤ f) (f1 : f ≤ 1073741824) (c0 : 0 ≤ c) (c1 : c ≤ 1000000) : Ad.derr ⟨4, l, d, f, c, a⟩ = 0 := by
  unfold Ad.derr
  rw [if_pos rfl, if_pos (by simp only [Ad.money]; omega)]

def DecPost (b : Nat) (w : World) (e : Ending) (w' : World) : Prop := ∃ D : Ad.Dec, e = .returned D.agg ∧ Ad.derr D = 0 ∧ Keeps b w w' ∧ IsDeck w' b

set_option maxHeartbeats 2000000 in
theorem decision_any (b : Nat) (w : World) (hd : IsDeck w b) :
    Calls Try.prog 31 #[.pointer (some ⟨b, 0, none⟩)] w (DecPost b w) := by
  have HD := Lib.hid hd
  have hb := hd.lt
  have HK := Lib.hid (Keeps.refl b w)
  clear hd
  go_enter Try.func31, Try.ntmps31
  go_wp2_with fail
  refine (range_any _ _ _ _ (by (repeat' (first | (with_reducible exact HD.out) | (with_reducible refine IsDeck.drewN ?_ _) | (with_reducible refine IsDeck.alloc ?_ _) | (with_reducible refine IsDeck.far ?_ ?_ _))) <;> (first | omega | (simp <;> omega))) (by omega) (by omega) (by omega) (by omega)).mono ?_
  rintro e w1 ⟨v, rfl, v0, v1, hk2, hd2⟩
  have h1 := Lib.hid ((Has.new w _ _).keeps hk2 (by omega))
  replace HK := Lib.hid (Keeps.trans (w := w) (by (repeat' (first | (with_reducible exact HK.out) | (with_reducible refine Keeps.drewN ?_ _) | (with_reducible refine Keeps.alloc ?_ _) | (with_reducible refine Keeps.far ?_ ?_ _))) <;> (first | omega | (simp <;> omega))) hk2); replace HD := Lib.hid hd2; clear hd2
  clear hk2
  obtain ⟨r0, r1, r2⟩ := h1.out.rules
  by_cases hv : v < 4
  · go_wp2_with fail
    refine bodyPost_ret (v := (Ad.Dec.mk v 0 0 0 0 false).agg) (by simp [results, Try.results31, go_sem, Ad.Dec.agg, r0]) rfl ⟨⟨v, 0, 0, 0, 0, false⟩, rfl, Ad.derr_un v v0 hv, (by (repeat' (first | (with_reducible exact HK.out) | (with_reducible refine Keeps.drewN ?_ _) | (with_reducible refine Keeps.alloc ?_ _) | (with_reducible refine Keeps.far ?_ ?_ _))) <;> (first | omega | (simp <;> omega))), (by (repeat' (first | (with_reducible exact HD.out) | (with_reducible refine IsDeck.drewN ?_ _) | (with_reducible refine IsDeck.alloc ?_ _) | (with_reducible refine IsDeck.far ?_ ?_ _))) <;> (first | omega | (simp <;> omega)))⟩
  · go_wp2_with fail
    refine (upto_any _ _ _ (by (repeat' (first | (with_reducible exact HD.out) | (with_reducible refine IsDeck.drewN ?_ _) | (with_reducible refine IsDeck.alloc ?_ _) | (with_reducible refine IsDeck.far ?_ ?_ _))) <;> (first | omega | (simp <;> omega))) (by omega) (by omega)).mono ?_
    rintro e w2 ⟨x, rfl, x0, x1, hk2, hd2⟩
    replace HK := Lib.hid (Keeps.trans (w := w) (by (repeat' (first | (with_reducible exact HK.out) | (with_reducible refine Keeps.drewN ?_ _) | (with_reducible refine Keeps.alloc ?_ _) | (with_reducible refine Keeps.far ?_ ?_ _))) <;> (first | omega | (simp <;> omega))) hk2); replace HD := Lib.hid hd2; clear hd2
    have h2 := Lib.hid (h1.out.keeps hk2 (by omega))
    clear hk2
    go_wp2_with fail
    refine (upto_any _ _ _ (by (repeat' (first | (with_reducible exact HD.out) | (with_reducible refine IsDeck.drewN ?_ _) | (with_reducible refine IsDeck.alloc ?_ _) | (with_reducible refine IsDeck.far ?_ ?_ _))) <;> (first | omega | (simp <;> omega))) (by omega) (by omega)).mono ?_
    rintro e w3 ⟨y, rfl, y0, y1, hk2, hd2⟩
    replace HK := Lib.hid (Keeps.trans (w := w) (by (repeat' (first | (with_reducible exact HK.out) | (with_reducible refine Keeps.drewN ?_ _) | (with_reducible refine Keeps.alloc ?_ _) | (with_reducible refine Keeps.far ?_ ?_ _))) <;> (first | omega | (simp <;> omega))) hk2); replace HD := Lib.hid hd2; clear hd2
    have h3 := Lib.hid (h2.out.keeps hk2 (by omega))
    clear hk2
    go_wp2_with fail
    refine (next_any _ _ _ (by (repeat' (first | (with_reducible exact HD.out) | (with_reducible refine IsDeck.drewN ?_ _) | (with_reducible refine IsDeck.alloc ?_ _) | (with_reducible refine IsDeck.far ?_ ?_ _))) <;> (first | omega | (simp <;> omega))) (by omega) (by omega)).mono ?_
    rintro e w4 ⟨a, rfl, a0, a1, hk2, hd2⟩
    replace HK := Lib.hid (Keeps.trans (w := w) (by (repeat' (first | (with_reducible exact HK.out) | (with_reducible refine Keeps.drewN ?_ _) | (with_reducible refine Keeps.alloc ?_ _) | (with_reducible refine Keeps.far ?_ ?_ _))) <;> (first | omega | (simp <;> omega))) hk2); replace HD := Lib.hid hd2; clear hd2
    have h4 := Lib.hid (h3.out.keeps hk2 (by omega))
    clear hk2 h1 h2 h3 r0 r1 r2 hv v0 v1
    obtain ⟨r0, r1, r2⟩ := h4.out.rules
    obtain ⟨q, hq⟩ : ∃ q : Bool, (a == 1) = q := ⟨_, rfl⟩
    have bz : w.heap.size ≠ w4.heap.size := by omega
    have hs4 : w.heap.size < w4.heap.size := r2
    go_wp2_with fail
    refine (next_any _ _ _ (by (repeat' (first | (with_reducible exact HD.out) | (with_reducible refine IsDeck.drewN ?_ _) | (with_reducible refine IsDeck.alloc ?_ _) | (with_reducible refine IsDeck.far ?_ ?_ _))) <;> (first | omega | (simp <;> omega))) (by omega) (by omega)).mono ?_
    rintro e w5 ⟨u, rfl, u0, u1, hk2, hd2⟩
    replace HK := Lib.hid (Keeps.trans (w := w) (by (repeat' (first | (with_reducible exact HK.out) | (with_reducible refine Keeps.drewN ?_ _) | (with_reducible refine Keeps.alloc ?_ _) | (with_reducible refine Keeps.far ?_ ?_ _))) <;> (first | omega | (simp <;> omega))) hk2); replace HD := Lib.hid hd2; clear hd2
    have h5 := Lib.hid ((h4.out.alloc _).keeps hk2 (by omega))
    have hx := Lib.hid ((Has.new w4 _ _).keeps hk2 (by have := HK.out.size; omega))
    clear hk2 h4 r0 r1 r2 hq a0 a1
    have hbw : b < w4.heap.size := by omega
    have hu : u = 0 ∨ u = 1 := by omega
    clear u0 u1
    rcases hu with rfl | rfl
    · obtain ⟨l, hl, l0, l1⟩ : ∃ l : Int, l = -1 ∧ -1 ≤ l ∧ l ≤ 1073741824 := ⟨-1, rfl, by omega, by omega⟩
      rw [← hl] at hx
      clear hl
      obtain ⟨W, rfl⟩ : ∃ W, W = w5 := ⟨_, rfl⟩
      go_wp2_with fail
      refine (next_any _ _ _ (by (repeat' (first | (with_reducible exact HD.out) | (with_reducible refine IsDeck.drewN ?_ _) | (with_reducible refine IsDeck.alloc ?_ _) | (with_reducible refine IsDeck.far ?_ ?_ _))) <;> (first | omega | (simp <;> omega))) (by omega) (by omega)).mono ?_
      rintro e w7 ⟨u, rfl, u0, u1, hk2, hd2⟩
      replace HK := Lib.hid (Keeps.trans (w := w) (by (repeat' (first | (with_reducible exact HK.out) | (with_reducible refine Keeps.drewN ?_ _) | (with_reducible refine Keeps.alloc ?_ _) | (with_reducible refine Keeps.far ?_ ?_ _))) <;> (first | omega | (simp <;> omega))) hk2); replace HD := Lib.hid hd2; clear hd2
      have h7 := Lib.hid (h5.out.keeps hk2 (by omega))
      have hx7 := Lib.hid (hx.out.keeps hk2 (by omega))
      clear hk2 hx h5
      obtain ⟨r0, r1, r2⟩ := h7.out.rules
      obtain ⟨x2, x3, x4⟩ := hx7.out.rules
      have hu : u = 0 ∨ u = 1 := by omega
      clear u0 u1
      rcases hu with rfl | rfl
      · go_wp2_with fail
        refine bodyPost_ret (v := (Ad.Dec.mk 4 l x 0 y q).agg) (by simp [results, Try.results31, go_sem, Ad.Dec.agg, r0]) rfl ⟨⟨4, l, x, 0, y, q⟩, rfl, Ad.derr_ins l x 0 y q l0 l1 x0 x1 (by omega) (by omega) y0 y1, (by (repeat' (first | (with_reducible exact HK.out) | (with_reducible refine Keeps.drewN ?_ _) | (with_reducible refine Keeps.alloc ?_ _) | (with_reducible refine Keeps.far ?_ ?_ _))) <;> (first | omega | (simp <;> omega))), (by (repeat' (first | (with_reducible exact HD.out) | (with_reducible refine IsDeck.drewN ?_ _) | (with_reducible refine IsDeck.alloc ?_ _) | (with_reducible refine IsDeck.far ?_ ?_ _))) <;> (first | omega | (simp <;> omega)))⟩
      · go_wp2_with fail
        refine (money_any _ _ (by (repeat' (first | (with_reducible exact HD.out) | (with_reducible refine IsDeck.drewN ?_ _) | (with_reducible refine IsDeck.alloc ?_ _) | (with_reducible refine IsDeck.far ?_ ?_ _))) <;> (first | omega | (simp <;> omega)))).mono ?_
        rintro e w8 ⟨f, rfl, f0, f1, hk2, hd2⟩
        replace HK := Lib.hid (Keeps.trans (w := w) (by (repeat' (first | (with_reducible exact HK.out) | (with_reducible refine Keeps.drewN ?_ _) | (with_reducible refine Keeps.alloc ?_ _) | (with_reducible refine Keeps.far ?_ ?_ _))) <;> (first | omega | (simp <;> omega))) hk2); replace HD := Lib.hid hd2; clear hd2
        have h8 := Lib.hid (h7.out.keeps hk2 (by omega))
        have hx8 := Lib.hid (hx7.out.keeps hk2 (by omega))
        clear hk2 hx7 h7 r0 r1 r2 x2 x3 x4
        obtain ⟨r0, r1, r2⟩ := h8.out.rules
        obtain ⟨x2, x3, x4⟩ := hx8.out.rules
        go_wp2_with fail
        refine bodyPost_ret (v := (Ad.Dec.mk 4 l x f y q).agg) (by simp [results, Try.results31, go_sem, Ad.Dec.agg, r0]) rfl ⟨⟨4, l, x, f, y, q⟩, rfl, Ad.derr_ins l x f y q l0 l1 x0 x1 f0 f1 y0 y1, (by (repeat' (first | (with_reducible exact HK.out) | (with_reducible refine Keeps.drewN ?_ _) | (with_reducible refine Keeps.alloc ?_ _) | (with_reducible refine Keeps.far ?_ ?_ _))) <;> (first | omega | (simp <;> omega))), (by (repeat' (first | (with_reducible exact HD.out) | (with_reducible refine IsDeck.drewN ?_ _) | (with_reducible refine IsDeck.alloc ?_ _) | (with_reducible refine IsDeck.far ?_ ?_ _))) <;> (first | omega | (simp <;> omega)))⟩
    · go_wp2_with fail
      refine (money_any _ _ (by (repeat' (first | (with_reducible exact HD.out) | (with_reducible refine IsDeck.drewN ?_ _) | (with_reducible refine IsDeck.alloc ?_ _) | (with_reducible refine IsDeck.far ?_ ?_ _))) <;> (first | omega | (simp <;> omega)))).mono ?_
      rintro e w6 ⟨l, rfl, l0', l1, hk2, hd2⟩
      replace HK := Lib.hid (Keeps.trans (w := w) (by (repeat' (first | (with_reducible exact HK.out) | (with_reducible refine Keeps.drewN ?_ _) | (with_reducible refine Keeps.alloc ?_ _) | (with_reducible refine Keeps.far ?_ ?_ _))) <;> (first | omega | (simp <;> omega))) hk2); replace HD := Lib.hid hd2; clear hd2
      have l0 : -1 ≤ l := by omega
      have h6 := Lib.hid (h5.out.keeps hk2 (by omega))
      have hx6 := Lib.hid (hx.out.keeps hk2 (by omega))
      clear hk2 hx h5 l0'
      obtain ⟨r0, r1, r2⟩ := hx6.out.rules
      have r3 := h6.out.lt
      go_wp2_with fail
      obtain ⟨W, hW⟩ : ∃ W, w6.setCell ⟨w4.heap.size, 1, none⟩ (.int .i64 l) = W := ⟨_, rfl⟩
      rw [hW]
      replace HK : Hid (Keeps b w W) := Lib.hid (by rw [← hW]; exact HK.out.far (by simp; omega) _)
      replace HD : Hid (IsDeck W b) := Lib.hid (by rw [← hW]; exact HD.out.far (by simp; omega) _)
      have h5 := Lib.hid (h6.out.far (p := ⟨w4.heap.size, 1, none⟩) (by simp; omega) (.int .i64 l))
      have hx := Lib.hid (hx6.out.put 1 (.int .i64 l))
      rw [hW] at h5 hx
      simp only [List.setIfInBounds_toArray, List.set_cons_succ, List.set_cons_zero] at hx
      clear r0 r1 r2 r3 h6 hx6 hW
      refine (next_any _ _ _ (by (repeat' (first | (with_reducible exact HD.out) | (with_reducible refine IsDeck.drewN ?_ _) | (with_reducible refine IsDeck.alloc ?_ _) | (with_reducible refine IsDeck.far ?_ ?_ _))) <;> (first | omega | (simp <;> omega))) (by omega) (by omega)).mono ?_
      rintro e w7 ⟨u, rfl, u0, u1, hk2, hd2⟩
      replace HK := Lib.hid (Keeps.trans (w := w) (by (repeat' (first | (with_reducible exact HK.out) | (with_reducible refine Keeps.drewN ?_ _) | (with_reducible refine Keeps.alloc ?_ _) | (with_reducible refine Keeps.far ?_ ?_ _))) <;> (first | omega | (simp <;> omega))) hk2); replace HD := Lib.hid hd2; clear hd2
      have h7 := Lib.hid (h5.out.keeps hk2 (by omega))
      have hx7 := Lib.hid (hx.out.keeps hk2 (by omega))
      clear hk2 hx h5
      obtain ⟨r0, r1, r2⟩ := h7.out.rules
      obtain ⟨x2, x3, x4⟩ := hx7.out.rules
      have hu : u = 0 ∨ u = 1 := by omega
      clear u0 u1
      rcases hu with rfl | rfl
      · go_wp2_with fail
        refine bodyPost_ret (v := (Ad.Dec.mk 4 l x 0 y q).agg) (by simp [results, Try.results31, go_sem, Ad.Dec.agg, r0]) rfl ⟨⟨4, l, x, 0, y, q⟩, rfl, Ad.derr_ins l x 0 y q l0 l1 x0 x1 (by omega) (by omega) y0 y1, (by (repeat' (first | (with_reducible exact HK.out) | (with_reducible refine Keeps.drewN ?_ _) | (with_reducible refine Keeps.alloc ?_ _) | (with_reducible refine Keeps.far ?_ ?_ _))) <;> (first | omega | (simp <;> omega))), (by (repeat' (first | (with_reducible exact HD.out) | (with_reducible refine IsDeck.drewN ?_ _) | (with_reducible refine IsDeck.alloc ?_ _) | (with_reducible refine IsDeck.far ?_ ?_ _))) <;> (first | omega | (simp <;> omega)))⟩
      · go_wp2_with fail
        refine (money_any _ _ (by (repeat' (first | (with_reducible exact HD.out) | (with_reducible refine IsDeck.drewN ?_ _) | (with_reducible refine IsDeck.alloc ?_ _) | (with_reducible refine IsDeck.far ?_ ?_ _))) <;> (first | omega | (simp <;> omega)))).mono ?_
        rintro e w8 ⟨f, rfl, f0, f1, hk2, hd2⟩
        replace HK := Lib.hid (Keeps.trans (w := w) (by (repeat' (first | (with_reducible exact HK.out) | (with_reducible refine Keeps.drewN ?_ _) | (with_reducible refine Keeps.alloc ?_ _) | (with_reducible refine Keeps.far ?_ ?_ _))) <;> (first | omega | (simp <;> omega))) hk2); replace HD := Lib.hid hd2; clear hd2
        have h8 := Lib.hid (h7.out.keeps hk2 (by omega))
        have hx8 := Lib.hid (hx7.out.keeps hk2 (by omega))
        clear hk2 hx7 h7 r0 r1 r2 x2 x3 x4
        obtain ⟨r0, r1, r2⟩ := h8.out.rules
        obtain ⟨x2, x3, x4⟩ := hx8.out.rules
        go_wp2_with fail
        refine bodyPost_ret (v := (Ad.Dec.mk 4 l x f y q).agg) (by simp [results, Try.results31, go_sem, Ad.Dec.agg, r0]) rfl ⟨⟨4, l, x, f, y, q⟩, rfl, Ad.derr_ins l x f y q l0 l1 x0 x1 f0 f1 y0 y1, (by (repeat' (first | (with_reducible exact HK.out) | (with_reducible refine Keeps.drewN ?_ _) | (with_reducible refine Keeps.alloc ?_ _) | (with_reducible refine Keeps.far ?_ ?_ _))) <;> (first | omega | (simp <;> omega))), (by (repeat' (first | (with_reducible exact HD.out) | (with_reducible refine IsDeck.drewN ?_ _) | (with_reducible refine IsDeck.alloc ?_ _) | (with_reducible refine IsDeck.far ?_ ?_ _))) <;> (first | omega | (simp <;> omega)))⟩

/-- what made returns: a decision and an item without an error -/
def MadePost (w : World) (e : Ending) (w' : World) : Prop := ∃ (D : Ad.Dec) (X : Ad.Itm), e = .returned (.tuple #[D.agg, X.agg (.slice none 0 0)]) ∧ Ad.derr D = 0 ∧ Ad.itemErr X = 0 ∧ Below w.heap.size w w'

theorem Ad.item_made (a b c : Int) (a0 : 0 ≤ a) (a1 : a ≤ 1073741824) (b0 : 0 ≤ b) (b1 : b ≤ 1073741824) (c0 : 0 ≤ c) (c1 : c ≤ 1073741824) : Ad.itemErr ⟨a, b, c⟩ = 0 := if_pos (by simp only [Ad.money]; omega)

set_option maxHeartbeats 2000000 in
theorem made16_any (A : Option Addr) (n c : Nat) (z : Nat → Int) (w : World) (hn : n ≤ 9223372036854775807) (hc : Cells w w.heap.size A n fun j => .int .i64 (z j)) :
    Calls Try.prog 11 #[.slice A n c] w (MadePost w) := by
  have HC := Lib.hid hc
  clear hc
  go_enter Try.func11, Try.ntmps11
  go_wp2_with fail
  refine (deck_new A n c z _ hn ?_).mono ?_
  · exact ((HC.out.alloc (Nat.le_refl _) _).alloc (by simp) _).mono (by simp; omega)
  rintro e w1 ⟨rfl, hb, hd⟩
  have HB : Hid (Below w.heap.size w w1) := Lib.hid ((((Below.refl w.heap.size w).alloc (Nat.le_refl _) _).alloc (by simp) _).trans (hb.mono (by simp; omega)))
  have H2 := Lib.hid (((Has.new w _ _).alloc _).below hb (by simp; omega))
  have H3 := Lib.hid ((Has.new' (w.alloc _) (w.heap.size + 1) _ _ (by simp)).below hb (by simp))
  have HD : Hid (IsDeck w1 (w.heap.size + 1 + 1)) := Lib.hid (by simpa using hd)
  have hlt := HD.out.lt
  clear hb hd HC
  go_wp2_with fail
  refine (decision_any (w.heap.size + 1 + 1) _ HD.out).mono ?_
  rintro e w2 ⟨D, rfl, hD, hk, hd⟩
  obtain ⟨v, l, de, fr, co, av⟩ := D
  have HDE := Lib.hid hD
  replace H2 := Lib.hid (H2.out.keeps hk (by omega))
  replace H3 := Lib.hid (H3.out.keeps hk (by omega))
  replace HB : Hid (Below w.heap.size w w2) := Lib.hid (HB.out.trans (hk.below (by omega) (by omega)))
  replace HD := Lib.hid hd
  have hlt2 := hd.lt
  clear hk hd hD
  unfold Ad.Dec.agg
  simp only
  go_wp2_with fail
  obtain ⟨w3, hw3⟩ : ∃ w3, (w2.alloc (.cells #[.int .i64 v, .int .i64 l, .int .i64 de, .int .i64 fr, .int .i64 co, .bool av] 23)) = w3 := ⟨_, rfl⟩
  have HX := Lib.hid (Has.new w2 #[.int .i64 v, .int .i64 l, .int .i64 de, .int .i64 fr, .int .i64 co, .bool av] 23)
  replace H2 := Lib.hid (H2.out.alloc (.cells #[.int .i64 v, .int .i64 l, .int .i64 de, .int .i64 fr, .int .i64 co, .bool av] 23))
  replace H3 := Lib.hid (H3.out.alloc (.cells #[.int .i64 v, .int .i64 l, .int .i64 de, .int .i64 fr, .int .i64 co, .bool av] 23))
  replace HB := Lib.hid (HB.out.alloc HB.out.size (.cells #[.int .i64 v, .int .i64 l, .int .i64 de, .int .i64 fr, .int .i64 co, .bool av] 23))
  replace HD := Lib.hid (HD.out.alloc (.cells #[.int .i64 v, .int .i64 l, .int .i64 de, .int .i64 fr, .int .i64 co, .bool av] 23))
  rw [hw3] at HX H2 H3 HB HD ⊢
  clear hw3 hlt
  obtain ⟨bx, hbx⟩ : ∃ bx, w2.heap.size = bx := ⟨_, rfl⟩
  rw [hbx] at HX hlt2 ⊢
  clear hbx
  obtain ⟨x0, x1, x2⟩ := HX.out.rules
  obtain ⟨r0, r1, r2⟩ := H2.out.rules
  obtain ⟨s0, s1, s2⟩ := H3.out.rules
  replace HX : Hid (Has w3.drew _ _ _) := Lib.hid HX.out
  replace H2 : Hid (Has w3.drew _ _ _) := Lib.hid H2.out
  replace H3 : Hid (Has w3.drew _ _ _) := Lib.hid H3.out
  replace HB : Hid (Below w.heap.size w w3.drew) := Lib.hid HB.out.drew
  replace HD : Hid (IsDeck w3.drew _) := Lib.hid (HD.out.drewN 1)
  go_region_with ((go_at_call 32; refine (money_any (w.heap.size + 1 + 1) _ HD.out).mono ?_; rintro e wn ⟨u, rfl, u0, u1, hk2, hd2⟩; replace HX := Lib.hid (HX.out.keeps hk2 (by omega)); replace H2 := Lib.hid (H2.out.keeps hk2 (by omega)); replace H3 := Lib.hid (H3.out.keeps hk2 (by omega)); replace HB : Hid (Below w.heap.size w wn) := Lib.hid (HB.out.trans (hk2.below (by omega) HB.out.size)); replace HD := Lib.hid hd2; clear hk2 hd2 x0 x1 x2 r0 r1 r2 s0 s1 s2; obtain ⟨x0, x1, x2⟩ := HX.out.rules; obtain ⟨r0, r1, r2⟩ := H2.out.rules; obtain ⟨s0, s1, s2⟩ := H3.out.rules))
  all_goals
    rename_i _ ua ua0 ua1 _ ub ub0 ub1
    go_wp2_with fail
    refine bodyPost_ret (v := .tuple #[(Ad.Dec.mk v l de fr co av).agg, (Ad.Itm.mk ua ub u).agg (.slice none 0 0)]) ?_ rfl ⟨⟨v, l, de, fr, co, av⟩, ⟨ua, ub, u⟩, rfl, HDE.out, Ad.item_made ua ub u ua0 ua1 ub0 ub1 u0 u1, ?_⟩
    · simp [results, Try.results11, go_sem, Ad.Dec.agg, Ad.Itm.agg, r0, s0]
    · (repeat' (first | (with_reducible exact HB.out) | (with_reducible refine Below.setCell ?_ ?_ _))) <;> (simp <;> omega)
end Go.Proofs.Ytageedgbkaknnaa
