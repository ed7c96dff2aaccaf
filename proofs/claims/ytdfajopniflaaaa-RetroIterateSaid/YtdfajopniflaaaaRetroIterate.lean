/- The law RetroIterate: one step of the iteration, the net losses and what a retrocession takes over are the specified ones, for all arguments. No condition. -/
import Derived.Test.YtdfajopniflaaaaRows
import Derived.Test.YtdfajopniflaaaaRead
import Derived.Test.YtdfajopniflaaaaReAw
import Derived.Test.YtdfajopniflaaaaReN
import Derived.Test.YtdfajopniflaaaaReRN
import Derived.Test.YtdfajopniflaaaaReRS
import Derived.Test.YtdfajopniflaaaaReArgs
import Derived.Deep.RegionHeld3
import Derived.WalkKit
import Derived.ProofKit
import Derived.OpenShut
import Derived.ShutString
import Derived.ChangeOld
import Derived.Below
namespace Go.Proofs.Ytdfajopniflaaaa.retroIterate
open Go.ChangeShapes Go.WideShapes Go.ChangeAt Go.RowKit
set_option linter.unusedVariables false

theorem own : ownKnob Try.prog.godebug = none := by kernel_rfl
theorem laidOut : laidOutB Try.prog = true := by kernel_rfl

theorem box5 {w : World} {b : Nat} {v0 v1 v2 v3 v4 : Value} {t : TypeId} (h : Has w b #[v0, v1, v2, v3, v4] t) : w.cell? ⟨b, 0, none⟩ = some v0 ∧ w.cell? ⟨b, 1, none⟩ = some v1 ∧ w.cell? ⟨b, 2, none⟩ = some v2 ∧ w.cell? ⟨b, 3, none⟩ = some v3 ∧ w.cell? ⟨b, 4, none⟩ = some v4 := by
  have c0 := h.cell 0
  have c1 := h.cell 1
  have c2 := h.cell 2
  have c3 := h.cell 3
  have c4 := h.cell 4
  simp only [List.getElem?_toArray, List.getElem?_cons_zero, List.getElem?_cons_succ] at c0 c1 c2 c3 c4
  exact ⟨c0, c1, c2, c3, c4⟩

set_option maxHeartbeats 4000000 in
set_option maxRecDepth 100000 in
theorem walk (v0 : Value) (v1 : Value) (v2 : Value) (v3 : Value) (c4 : List Value) (v5 : Value) (w : World) (h0 : Rd22 w [v0]) (h1 : Rd23 w [v1]) (h2 : Rd22 w [v2]) (h3 : Rd22 w [v3]) (h4 : Rd48 w c4) (h5 : Rd3 w [v5]) :
    Calls Try.prog 7 #[v0, v1, v2, v3, .agg c4.toArray, v5] w fun e w' => e = .returned (.bool true) ∧ Below w.heap.size w w' := by
  obtain ⟨A, n, c, z, rfl, hn, _, _, hc, _⟩ := rd_ints h0
  obtain ⟨A2, m, c2, R, rfl, hm, _, _, hr⟩ := rd_retros h1
  obtain ⟨A3, nx, c3, x, rfl, hnx, _, _, hx, _⟩ := rd_ints h2
  obtain ⟨AD, nd, cd, zd, rfl, hnd, _, _, hdc, _⟩ := rd_ints h3
  obtain ⟨r, rfl⟩ := rd_retro h4
  obtain ⟨q, rfl, _, _⟩ := rd_i64 h5
  have HC : Hid (Nums w w.heap.size A n z) := Lib.hid hc
  have HR := Lib.hid hr
  have HX : Hid (Nums w w.heap.size A3 nx x) := Lib.hid hx
  have HDC := Lib.hid hdc
  clear h0 h1 h2 h3 h4 h5 hc hr hx hdc
  have CC1 := Lib.hid (ceded_any r q)
  have CC2 := Lib.hid (rceded_any r q)
  obtain ⟨cv, hcv⟩ : ∃ cv, Re.ced r q = cv := ⟨_, rfl⟩
  rw [hcv] at CC1 CC2
  clear hcv
  obtain ⟨fr, ds, sh, re, li⟩ := r
  unfold Re.Rt.agg at CC1 CC2
  unfold Re.Rt.cells
  simp only at CC1 CC2 ⊢
  by_cases hl1 : 30 < n
  · go_enter Try.func7, Try.ntmps7
    go_wp2_with (first | (go_at_call 9; refine (awake39_any _).mono ?_; rintro e w99 ⟨rfl, hb99⟩))
    go_ret
    exact ⟨rfl, ((Below.refl _ _).alloc (Nat.le_refl _) _).trans (hb99.mono (by simp))⟩
  by_cases hl2 : 40 < m
  · have hl1' : n ≤ 30 := by omega
    go_enter Try.func7, Try.ntmps7
    go_wp2_with (first | (go_at_call 9; refine (awake39_any _).mono ?_; rintro e w99 ⟨rfl, hb99⟩))
    go_ret
    exact ⟨rfl, ((Below.refl _ _).alloc (Nat.le_refl _) _).trans (hb99.mono (by simp))⟩
  by_cases hl3 : 30 < nx
  · have hl1' : n ≤ 30 := by omega
    have hl2' : m ≤ 40 := by omega
    go_enter Try.func7, Try.ntmps7
    go_wp2_with (first | (go_at_call 9; refine (awake39_any _).mono ?_; rintro e w99 ⟨rfl, hb99⟩))
    go_ret
    exact ⟨rfl, ((Below.refl _ _).alloc (Nat.le_refl _) _).trans (hb99.mono (by simp))⟩
  have hl1' : n ≤ 30 := by omega
  have hl2' : m ≤ 40 := by omega
  have hl3' : nx ≤ 30 := by omega
  clear hl1 hl2 hl3
  obtain ⟨W0, hW0⟩ : ∃ W, w.alloc (.cells #[.int .i64 fr, .int .i64 ds, .int .i64 sh, .int .i64 re, .int .i64 li] 48) = W := ⟨_, rfl⟩
  have HB0 : Hid (Below w.heap.size w W0) := Lib.hid (by rw [← hW0]; exact (Below.refl w.heap.size w).alloc (Nat.le_refl _) _)
  have HBX : Hid (Has W0 w.heap.size #[.int .i64 fr, .int .i64 ds, .int .i64 sh, .int .i64 re, .int .i64 li] 48) := Lib.hid (by rw [← hW0]; exact Has.new w _ _)
  have hbx := HBX.out.lt
  go_enter Try.func7, Try.ntmps7
  go_wp2_with fail
  clear hW0
  have CN := Lib.hid (new2_any AD nd cd zd W0 hnd ((HDC.out.below HB0.out).mono HB0.out.size))
  obtain ⟨bd, hbd⟩ : ∃ b, W0.heap.size = b := ⟨_, rfl⟩
  rw [hbd] at CN hbx
  refine CN.out.mono ?_
  rintro e w1 ⟨rfl, hb, hd⟩
  rw [← hbd] at hb
  replace HBX := Lib.hid (HBX.out.below hb HBX.out.lt)
  have HB : Hid (Below w.heap.size w w1) := Lib.hid (HB0.out.trans (hb.mono HB0.out.size))
  have HD := Lib.hid hd
  clear hb hd HDC HB0 CN hbd
  go_wp2_with fail
  refine (retros_any _ _ HD.out).mono ?_
  intro e w2 hpost
  obtain ⟨g, n1, m1, B2, k2, o1, R1, rfl, hn1, hn5, hm6, hg, _, _, ho1, hr1, hB2, _, _, hV1, hk, hd⟩ := retros_use hpost HD.out.lt
  have hbd := HD.out.lt
  replace HBX := Lib.hid (HBX.out.keeps hk (by omega))
  replace HB : Hid (Below w.heap.size w w2) := Lib.hid (HB.out.trans (hk.below (by omega) HB.out.size))
  replace HD := Lib.hid hd
  have HO1 := Lib.hid ho1
  have HR1 := Lib.hid hr1
  have HV1 := Lib.hid hV1
  have HB2 : Hid (∀ ad, B2 = some ad → ad.block ≠ bd) := Lib.hid fun ad e => by have := (hB2 ad e).1; omega
  have hgb : g ≠ bd := by omega
  clear hpost hk hd ho1 hr1 hV1 hB2
  go_wp2_with fail
  refine (list39_any _ (some ⟨g, 0, none⟩) n1 n1 o1 B2 m1 k2 R1 w2 HD.out HV1.out HO1.out HR1.out (fun ad e => by injection e with e; subst e; exact hgb) HB2.out).mono ?_
  rintro e w3 ⟨gz, z1, rfl, hgz, hz, hzb, hk, hd⟩
  replace HBX := Lib.hid (HBX.out.keeps hk (by omega))
  replace HB : Hid (Below w.heap.size w w3) := Lib.hid (HB.out.trans (hk.below (by omega) HB.out.size))
  replace HO1 := Lib.hid (HO1.out.keeps_ne hk (fun ad e => by injection e with e; subst e; exact hgb))
  replace HR1 := Lib.hid (HR1.out.keeps_ne hk HB2.out)
  have HZ1 := Lib.hid hz.nums
  clear hk hd hz hzb HD HB2
  have hz3 := HB.out.size
  obtain ⟨E1, hE1⟩ : ∃ E, Re.lerr n z m R nx x = E := ⟨_, rfl⟩
  obtain ⟨E2, hE2⟩ : ∃ E, Re.lerr n1 o1 m1 R1 n1 z1 = E := ⟨_, rfl⟩
  obtain ⟨V1, hV1⟩ : ∃ V, Re.verr n z m R = V := ⟨_, rfl⟩
  have I1 : Hid (∀ W : World, Below w3.heap.size w3 W → Calls Try.prog 22 #[.slice A n c, .slice A2 m c2, .slice A3 nx c3] W (RowPost E1 n (Re.step z m R x) W)) := Lib.hid fun W hb => by
    have := iterate_any A n c z A2 m c2 R A3 nx c3 x W hn hm hnx ((HC.out.below (HB.out.trans (hb.mono hz3))).mono (HB.out.trans (hb.mono hz3)).size) ((HR.out.below (HB.out.trans (hb.mono hz3))).mono (HB.out.trans (hb.mono hz3)).size) ((HX.out.below (HB.out.trans (hb.mono hz3))).mono (HB.out.trans (hb.mono hz3)).size)
    rw [hE1] at this
    exact this
  have I2 : Hid (∀ W : World, Below w3.heap.size w3 W → Calls Try.prog 23 #[.slice A n c, .slice A2 m c2, .slice A3 nx c3] W (RowPost E1 n (Re.step z m R x) W)) := Lib.hid fun W hb => by
    have := riterate_any A n c z A2 m c2 R A3 nx c3 x W hn hm hnx ((HC.out.below (HB.out.trans (hb.mono hz3))).mono (HB.out.trans (hb.mono hz3)).size) ((HR.out.below (HB.out.trans (hb.mono hz3))).mono (HB.out.trans (hb.mono hz3)).size) ((HX.out.below (HB.out.trans (hb.mono hz3))).mono (HB.out.trans (hb.mono hz3)).size)
    rw [hE1] at this
    exact this
  have I3 : Hid (∀ W : World, Below w3.heap.size w3 W → Calls Try.prog 22 #[.slice (some ⟨g, 0, none⟩) n1 n1, .slice B2 m1 k2, .slice (some ⟨gz, 0, none⟩) n1 n1] W (RowPost E2 n1 (Re.step o1 m1 R1 z1) W)) := Lib.hid fun W hb => by
    have := iterate_any (some ⟨g, 0, none⟩) n1 n1 o1 B2 m1 k2 R1 (some ⟨gz, 0, none⟩) n1 n1 z1 W (by omega) (by omega) (by omega) ((HO1.out.below hb).mono hb.size) ((HR1.out.below hb).mono hb.size) ((HZ1.out.below hb).mono hb.size)
    rw [hE2] at this
    exact this
  have I4 : Hid (∀ W : World, Below w3.heap.size w3 W → Calls Try.prog 23 #[.slice (some ⟨g, 0, none⟩) n1 n1, .slice B2 m1 k2, .slice (some ⟨gz, 0, none⟩) n1 n1] W (RowPost E2 n1 (Re.step o1 m1 R1 z1) W)) := Lib.hid fun W hb => by
    have := riterate_any (some ⟨g, 0, none⟩) n1 n1 o1 B2 m1 k2 R1 (some ⟨gz, 0, none⟩) n1 n1 z1 W (by omega) (by omega) (by omega) ((HO1.out.below hb).mono hb.size) ((HR1.out.below hb).mono hb.size) ((HZ1.out.below hb).mono hb.size)
    rw [hE2] at this
    exact this
  have I5 : Hid (∀ W : World, Below w3.heap.size w3 W → Calls Try.prog 24 #[.slice A n c, .slice A2 m c2, .slice A3 nx c3] W (RowPost E1 n (Re.net m R x) W)) := Lib.hid fun W hb => by
    have := net_any A n c z A2 m c2 R A3 nx c3 x W hn hm hnx ((HC.out.below (HB.out.trans (hb.mono hz3))).mono (HB.out.trans (hb.mono hz3)).size) ((HR.out.below (HB.out.trans (hb.mono hz3))).mono (HB.out.trans (hb.mono hz3)).size) ((HX.out.below (HB.out.trans (hb.mono hz3))).mono (HB.out.trans (hb.mono hz3)).size)
    rw [hE1] at this
    exact this
  have I6 : Hid (∀ W : World, Below w3.heap.size w3 W → Calls Try.prog 25 #[.slice A n c, .slice A2 m c2, .slice A3 nx c3] W (RowPost E1 n (Re.net m R x) W)) := Lib.hid fun W hb => by
    have := rnet_any A n c z A2 m c2 R A3 nx c3 x W hn hm hnx ((HC.out.below (HB.out.trans (hb.mono hz3))).mono (HB.out.trans (hb.mono hz3)).size) ((HR.out.below (HB.out.trans (hb.mono hz3))).mono (HB.out.trans (hb.mono hz3)).size) ((HX.out.below (HB.out.trans (hb.mono hz3))).mono (HB.out.trans (hb.mono hz3)).size)
    rw [hE1] at this
    exact this
  have I7 : Hid (∀ W : World, Below w3.heap.size w3 W → Calls Try.prog 24 #[.slice (some ⟨g, 0, none⟩) n1 n1, .slice B2 m1 k2, .slice (some ⟨gz, 0, none⟩) n1 n1] W (RowPost E2 n1 (Re.net m1 R1 z1) W)) := Lib.hid fun W hb => by
    have := net_any (some ⟨g, 0, none⟩) n1 n1 o1 B2 m1 k2 R1 (some ⟨gz, 0, none⟩) n1 n1 z1 W (by omega) (by omega) (by omega) ((HO1.out.below hb).mono hb.size) ((HR1.out.below hb).mono hb.size) ((HZ1.out.below hb).mono hb.size)
    rw [hE2] at this
    exact this
  have I8 : Hid (∀ W : World, Below w3.heap.size w3 W → Calls Try.prog 25 #[.slice (some ⟨g, 0, none⟩) n1 n1, .slice B2 m1 k2, .slice (some ⟨gz, 0, none⟩) n1 n1] W (RowPost E2 n1 (Re.net m1 R1 z1) W)) := Lib.hid fun W hb => by
    have := rnet_any (some ⟨g, 0, none⟩) n1 n1 o1 B2 m1 k2 R1 (some ⟨gz, 0, none⟩) n1 n1 z1 W (by omega) (by omega) (by omega) ((HO1.out.below hb).mono hb.size) ((HR1.out.below hb).mono hb.size) ((HZ1.out.below hb).mono hb.size)
    rw [hE2] at this
    exact this
  have CV1 : Hid (∀ W : World, Below w.heap.size w W → Calls Try.prog 28 #[.slice A n c, .slice A2 m c2] W (IntPost V1 W)) := Lib.hid fun W hb => by
    have := validate_any A n c z A2 m c2 R W hn hm ((HC.out.below hb).mono hb.size) ((HR.out.below hb).mono hb.size)
    rw [hV1] at this
    exact this
  have CV2 : Hid (∀ W : World, Below w.heap.size w W → Calls Try.prog 29 #[.slice A n c, .slice A2 m c2] W (IntPost V1 W)) := Lib.hid fun W hb => by
    have := rvalidate_any A n c z A2 m c2 R W hn hm ((HC.out.below hb).mono hb.size) ((HR.out.below hb).mono hb.size)
    rw [hV1] at this
    exact this
  clear hE1 hE2 hV1 HC HR HX HO1 HR1 HZ1 HV1
  have HE := Lib.hid (Below.refl w3.heap.size w3)
  go_wp2_with fail
  refine (I1.out _ HE.out).mono ?_
  rintro e w4 ⟨X1, mX1, cX1, rfl, hb, hmX1, hX1, _⟩
  replace HE : Hid (Below w3.heap.size w3 w4) := Lib.hid (HE.out.trans (hb.mono HE.out.size))
  have HMX1 := Lib.hid hmX1
  have HX1 := Lib.hid hX1
  clear hb hX1 hmX1 I1
  go_wp2_with fail
  refine (I2.out _ HE.out).mono ?_
  rintro e w5 ⟨Y1, mY1, cY1, rfl, hb, hmY1, hY1, _⟩
  replace HE : Hid (Below w3.heap.size w3 w5) := Lib.hid (HE.out.trans (hb.mono HE.out.size))
  have HMY1 := Lib.hid hmY1
  replace HX1 := Lib.hid ((HX1.out.below hb).mono hb.size)
  have HY1 := Lib.hid hY1
  clear hb hY1 hmY1 I2
  go_wp2_with fail
  refine (I3.out _ HE.out).mono ?_
  rintro e w6 ⟨X2, mX2, cX2, rfl, hb, hmX2, hX2, _⟩
  replace HE : Hid (Below w3.heap.size w3 w6) := Lib.hid (HE.out.trans (hb.mono HE.out.size))
  have HMX2 := Lib.hid hmX2
  replace HX1 := Lib.hid ((HX1.out.below hb).mono hb.size)
  replace HY1 := Lib.hid ((HY1.out.below hb).mono hb.size)
  have HX2 := Lib.hid hX2
  clear hb hX2 hmX2 I3
  go_wp2_with fail
  refine (I4.out _ HE.out).mono ?_
  rintro e w7 ⟨Y2, mY2, cY2, rfl, hb, hmY2, hY2, _⟩
  replace HE : Hid (Below w3.heap.size w3 w7) := Lib.hid (HE.out.trans (hb.mono HE.out.size))
  have HMY2 := Lib.hid hmY2
  replace HX1 := Lib.hid ((HX1.out.below hb).mono hb.size)
  replace HY1 := Lib.hid ((HY1.out.below hb).mono hb.size)
  replace HX2 := Lib.hid ((HX2.out.below hb).mono hb.size)
  have HY2 := Lib.hid hY2
  clear hb hY2 hmY2 I4
  go_wp2_with fail
  refine (I5.out _ HE.out).mono ?_
  rintro e w8 ⟨X3, mX3, cX3, rfl, hb, hmX3, hX3, _⟩
  replace HE : Hid (Below w3.heap.size w3 w8) := Lib.hid (HE.out.trans (hb.mono HE.out.size))
  have HMX3 := Lib.hid hmX3
  replace HX1 := Lib.hid ((HX1.out.below hb).mono hb.size)
  replace HY1 := Lib.hid ((HY1.out.below hb).mono hb.size)
  replace HX2 := Lib.hid ((HX2.out.below hb).mono hb.size)
  replace HY2 := Lib.hid ((HY2.out.below hb).mono hb.size)
  have HX3 := Lib.hid hX3
  clear hb hX3 hmX3 I5
  go_wp2_with fail
  refine (I6.out _ HE.out).mono ?_
  rintro e w9 ⟨Y3, mY3, cY3, rfl, hb, hmY3, hY3, _⟩
  replace HE : Hid (Below w3.heap.size w3 w9) := Lib.hid (HE.out.trans (hb.mono HE.out.size))
  have HMY3 := Lib.hid hmY3
  replace HX1 := Lib.hid ((HX1.out.below hb).mono hb.size)
  replace HY1 := Lib.hid ((HY1.out.below hb).mono hb.size)
  replace HX2 := Lib.hid ((HX2.out.below hb).mono hb.size)
  replace HY2 := Lib.hid ((HY2.out.below hb).mono hb.size)
  replace HX3 := Lib.hid ((HX3.out.below hb).mono hb.size)
  have HY3 := Lib.hid hY3
  clear hb hY3 hmY3 I6
  go_wp2_with fail
  refine (I7.out _ HE.out).mono ?_
  rintro e w10 ⟨X4, mX4, cX4, rfl, hb, hmX4, hX4, _⟩
  replace HE : Hid (Below w3.heap.size w3 w10) := Lib.hid (HE.out.trans (hb.mono HE.out.size))
  have HMX4 := Lib.hid hmX4
  replace HX1 := Lib.hid ((HX1.out.below hb).mono hb.size)
  replace HY1 := Lib.hid ((HY1.out.below hb).mono hb.size)
  replace HX2 := Lib.hid ((HX2.out.below hb).mono hb.size)
  replace HY2 := Lib.hid ((HY2.out.below hb).mono hb.size)
  replace HX3 := Lib.hid ((HX3.out.below hb).mono hb.size)
  replace HY3 := Lib.hid ((HY3.out.below hb).mono hb.size)
  have HX4 := Lib.hid hX4
  clear hb hX4 hmX4 I7
  go_wp2_with fail
  refine (I8.out _ HE.out).mono ?_
  rintro e w11 ⟨Y4, mY4, cY4, rfl, hb, hmY4, hY4, _⟩
  replace HE : Hid (Below w3.heap.size w3 w11) := Lib.hid (HE.out.trans (hb.mono HE.out.size))
  have HMY4 := Lib.hid hmY4
  replace HX1 := Lib.hid ((HX1.out.below hb).mono hb.size)
  replace HY1 := Lib.hid ((HY1.out.below hb).mono hb.size)
  replace HX2 := Lib.hid ((HX2.out.below hb).mono hb.size)
  replace HY2 := Lib.hid ((HY2.out.below hb).mono hb.size)
  replace HX3 := Lib.hid ((HX3.out.below hb).mono hb.size)
  replace HY3 := Lib.hid ((HY3.out.below hb).mono hb.size)
  replace HX4 := Lib.hid ((HX4.out.below hb).mono hb.size)
  have HY4 := Lib.hid hY4
  clear hb hY4 hmY4 I8
  replace HBX := Lib.hid (HBX.out.below HE.out (by have := HBX.out.lt; omega))
  replace HB : Hid (Below w.heap.size w w11) := Lib.hid (HB.out.trans (HE.out.mono hz3))
  clear HE
  obtain rfl : mX1 = mY1 := by rw [HMX1.out, HMY1.out]
  have hmX1' : mX1 ≤ 30 := by rw [HMX1.out]; split <;> omega
  have SX1 : Hid (∀ W : World, (∀ p, W.cell? p = w11.cell? p) → Calls Try.prog 18 #[.slice X1 mX1 cX1, .slice Y1 mX1 cY1] W fun e w' => e = .returned (.bool true) ∧ ∃ m, w' = W.drewN m) := Lib.hid fun W hW => same_yes X1 Y1 mX1 cX1 cY1 _ w11.heap.size w11.heap.size W (by omega) (Cells.keep HX1.out fun p _ => hW p) (Cells.keep HY1.out fun p _ => hW p)
  clear HX1 HY1 HMX1 HMY1
  obtain rfl : mX2 = mY2 := by rw [HMX2.out, HMY2.out]
  have hmX2' : mX2 ≤ 30 := by rw [HMX2.out]; split <;> omega
  have SX2 : Hid (∀ W : World, (∀ p, W.cell? p = w11.cell? p) → Calls Try.prog 18 #[.slice X2 mX2 cX2, .slice Y2 mX2 cY2] W fun e w' => e = .returned (.bool true) ∧ ∃ m, w' = W.drewN m) := Lib.hid fun W hW => same_yes X2 Y2 mX2 cX2 cY2 _ w11.heap.size w11.heap.size W (by omega) (Cells.keep HX2.out fun p _ => hW p) (Cells.keep HY2.out fun p _ => hW p)
  clear HX2 HY2 HMX2 HMY2
  obtain rfl : mX3 = mY3 := by rw [HMX3.out, HMY3.out]
  have hmX3' : mX3 ≤ 30 := by rw [HMX3.out]; split <;> omega
  have SX3 : Hid (∀ W : World, (∀ p, W.cell? p = w11.cell? p) → Calls Try.prog 18 #[.slice X3 mX3 cX3, .slice Y3 mX3 cY3] W fun e w' => e = .returned (.bool true) ∧ ∃ m, w' = W.drewN m) := Lib.hid fun W hW => same_yes X3 Y3 mX3 cX3 cY3 _ w11.heap.size w11.heap.size W (by omega) (Cells.keep HX3.out fun p _ => hW p) (Cells.keep HY3.out fun p _ => hW p)
  clear HX3 HY3 HMX3 HMY3
  obtain rfl : mX4 = mY4 := by rw [HMX4.out, HMY4.out]
  have hmX4' : mX4 ≤ 30 := by rw [HMX4.out]; split <;> omega
  have SX4 : Hid (∀ W : World, (∀ p, W.cell? p = w11.cell? p) → Calls Try.prog 18 #[.slice X4 mX4 cX4, .slice Y4 mX4 cY4] W fun e w' => e = .returned (.bool true) ∧ ∃ m, w' = W.drewN m) := Lib.hid fun W hW => same_yes X4 Y4 mX4 cX4 cY4 _ w11.heap.size w11.heap.size W (by omega) (Cells.keep HX4.out fun p _ => hW p) (Cells.keep HY4.out fun p _ => hW p)
  clear HX4 HY4 HMX4 HMY4
  have d2 := HBX.out.lt
  go_wp2_with fail
  go_region_held3 (fun w' => w'.cell? ⟨w.heap.size, 0, none⟩ = some (.int .i64 fr) ∧ w'.cell? ⟨w.heap.size, 1, none⟩ = some (.int .i64 ds) ∧ w'.cell? ⟨w.heap.size, 2, none⟩ = some (.int .i64 sh) ∧ w'.cell? ⟨w.heap.size, 3, none⟩ = some (.int .i64 re) ∧ w'.cell? ⟨w.heap.size, 4, none⟩ = some (.int .i64 li)) (exact box5 HBX.out) (first
    | (go_at_call 18; first | (refine (SX1.out _ ?hh).mono ?_; (case hh => exact fun _ => rfl); clear SX1; rintro e w' ⟨rfl, nqX1, rfl⟩) | (refine (SX2.out _ ?hh).mono ?_; (case hh => exact fun _ => rfl); clear SX2; rintro e w' ⟨rfl, nqX2, rfl⟩) | (refine (SX3.out _ ?hh).mono ?_; (case hh => exact fun _ => rfl); clear SX3; rintro e w' ⟨rfl, nqX3, rfl⟩) | (refine (SX4.out _ ?hh).mono ?_; (case hh => exact fun _ => rfl); clear SX4; rintro e w' ⟨rfl, nqX4, rfl⟩))
    | (go_at_call 26; refine (CC1.out _).mono ?_; rintro e wA ⟨rfl, hb⟩; replace HBX : Hid (Has wA w.heap.size _ _) := Lib.hid ((HBX.out : Has _ _ _ _).below (B := w.heap.size + 1) (w := w11) (w' := wA) (Below.trans (B := w.heap.size + 1) (by repeat' (first | (with_reducible exact Below.refl _ _) | (with_reducible refine below_drewN ?_ _) | (with_reducible refine Below.drew ?_))) (hb.mono (by simp; omega))) (by omega)); replace HB : Hid (Below w.heap.size w wA) := Lib.hid (Below.trans (by repeat' (first | (with_reducible exact HB.out) | (with_reducible refine below_drewN ?_ _) | (with_reducible refine Below.drew ?_))) (hb.mono (by simp; omega))); clear hb d2; have d2 := HBX.out.lt)
    | (go_at_call 27; refine (CC2.out _).mono ?_; rintro e wB ⟨rfl, hb⟩; replace HBX := Lib.hid (HBX.out.below hb d2); clear d2; have d2 := HBX.out.lt; replace HB : Hid (Below w.heap.size w wB) := Lib.hid (Below.trans (by repeat' (first | (with_reducible exact HB.out) | (with_reducible refine below_drewN ?_ _) | (with_reducible refine Below.drew ?_))) (hb.mono HB.out.size)); clear hb)
    | (go_at_call 28; refine (CV1.out _ (by repeat' (first | (with_reducible exact HB.out) | (with_reducible refine below_drewN ?_ _) | (with_reducible refine Below.drew ?_)))).mono ?_; rintro e wC ⟨rfl, hb⟩; replace HBX := Lib.hid (HBX.out.below hb d2); clear d2; have d2 := HBX.out.lt; replace HB : Hid (Below w.heap.size w wC) := Lib.hid (Below.trans (by repeat' (first | (with_reducible exact HB.out) | (with_reducible refine below_drewN ?_ _) | (with_reducible refine Below.drew ?_))) (hb.mono HB.out.size)); clear hb)
    | (go_at_call 29; refine (CV2.out _ (by repeat' (first | (with_reducible exact HB.out) | (with_reducible refine below_drewN ?_ _) | (with_reducible refine Below.drew ?_)))).mono ?_; rintro e wD ⟨rfl, hb⟩; replace HBX := Lib.hid (HBX.out.below hb d2); clear d2; have d2 := HBX.out.lt; replace HB : Hid (Below w.heap.size w wD) := Lib.hid (Below.trans (by repeat' (first | (with_reducible exact HB.out) | (with_reducible refine below_drewN ?_ _) | (with_reducible refine Below.drew ?_))) (hb.mono HB.out.size)); clear hb)
    | (go_at_call 9; refine (awake39_any _).mono ?_; rintro e wE ⟨rfl, hb⟩; replace HBX := Lib.hid (HBX.out.below hb d2); clear d2; have d2 := HBX.out.lt; replace HB : Hid (Below w.heap.size w wE) := Lib.hid (Below.trans (by repeat' (first | (with_reducible exact HB.out) | (with_reducible refine below_drewN ?_ _) | (with_reducible refine Below.drew ?_))) (hb.mono HB.out.size)); clear hb))
  all_goals
    go_wp2_with fail
    go_ret
    exact ⟨rfl, (by repeat' (first | (with_reducible exact HB.out) | (with_reducible refine below_drewN ?_ _) | (with_reducible refine Below.drew ?_)))⟩

set_option maxRecDepth 100000 in
theorem lifted (os : Os) (started : os.Started) (H : Type) (enc : TypeId × Value → H) :
    ReturnsInHanded {} Try.checked os 7 .any (Rows.retroIterateSpec.pre6 enc Try.prog Try.f7 Rows.retroIterateRow.domain false) (Rows.retroIterateSpec.post enc Try.prog Try.f7 false true false false) := by
  refine returnsInHanded_of_change (C := Try.checked) own started (by kernel_rfl) Try.func7
    (ChangeSpec.witness6 (enc := enc) (C := Try.checked) false ⟨#[], #[.slice none 0 0, .slice none 0 0, .slice none 0 0, .slice none 0 0, .agg #[.int .i64 0, .int .i64 0, .int .i64 0, .int .i64 0, .int .i64 0], .int .i64 0], []⟩ 8 (by kernel_rfl) (by kernel_rfl) (by kernel_rfl) (by kernel_rfl)) ?_
  intro W base args ds gs before hval0 hW hcnd _
  have hval : ∀ (j : Nat) t v, Try.f7.params[j]? = some t → args[j]? = some v → Value.okWide Try.prog W .any base t v := hval0
  have hW' := hW
  obtain ⟨p, q, hA0, hV, rfl, hfz, hnd⟩ := hW
  have hA : DataW.TrodAll enc Try.prog W 0 (fun _ => true) true Try.f7.params.toList args.toList ds p := hA0
  rw [Try.params7] at hA hval
  obtain ⟨v0, vs0, d0, ds0, p0, q0, hargs, rfl, rfl, h0, r0⟩ := trodAll_cons hA
  obtain ⟨v1, vs1, d1, ds1, p1, q1, rfl, rfl, rfl, h1, r1⟩ := trodAll_cons r0
  obtain ⟨v2, vs2, d2, ds2, p2, q2, rfl, rfl, rfl, h2, r2⟩ := trodAll_cons r1
  obtain ⟨v3, vs3, d3, ds3, p3, q3, rfl, rfl, rfl, h3, r3⟩ := trodAll_cons r2
  obtain ⟨v4, vs4, d4, ds4, p4, q4, rfl, rfl, rfl, h4, r4⟩ := trodAll_cons r3
  obtain ⟨v5, vs5, d5, ds5, p5, q5, rfl, rfl, rfl, h5, r5⟩ := trodAll_cons r4
  obtain ⟨rfl, rfl, rfl⟩ := trodAll_nil r5
  obtain rfl : args = #[v0, v1, v2, v3, v4, v5] := by cases args; simp_all
  obtain ⟨rfl, rfl⟩ := trodVars_none hV
  have k0 := h0
  have lt0 : ∀ x ∈ p0, x.block < W.heap.size := by obtain ⟨m, hm⟩ := k0; exact DataW.trod_lt m _ _ _ hm
  obtain ⟨a0, len0, cap0, rfl⟩ := okWide_slice Try.underlying22 (hval 0 22 v0 rfl rfl)
  have r100 : Rd22 W [.slice a0 len0 cap0] := by obtain ⟨fuel, hf⟩ := h0; exact rd22 hf
  have k1 := h1
  have lt1 : ∀ x ∈ p1, x.block < W.heap.size := by obtain ⟨m, hm⟩ := k1; exact DataW.trod_lt m _ _ _ hm
  obtain ⟨a1, len1, cap1, rfl⟩ := okWide_slice Try.underlying23 (hval 1 23 v1 rfl rfl)
  have r101 : Rd23 W [.slice a1 len1 cap1] := by obtain ⟨fuel, hf⟩ := h1; exact rd23 hf
  have k2 := h2
  have lt2 : ∀ x ∈ p2, x.block < W.heap.size := by obtain ⟨m, hm⟩ := k2; exact DataW.trod_lt m _ _ _ hm
  obtain ⟨a2, len2, cap2, rfl⟩ := okWide_slice Try.underlying22 (hval 2 22 v2 rfl rfl)
  have r102 : Rd22 W [.slice a2 len2 cap2] := by obtain ⟨fuel, hf⟩ := h2; exact rd22 hf
  have k3 := h3
  have lt3 : ∀ x ∈ p3, x.block < W.heap.size := by obtain ⟨m, hm⟩ := k3; exact DataW.trod_lt m _ _ _ hm
  obtain ⟨a3, len3, cap3, rfl⟩ := okWide_slice Try.underlying22 (hval 3 22 v3 rfl rfl)
  have r103 : Rd22 W [.slice a3 len3 cap3] := by obtain ⟨fuel, hf⟩ := h3; exact rd22 hf
  have k4 := h4
  have lt4 : ∀ x ∈ p4, x.block < W.heap.size := by obtain ⟨m, hm⟩ := k4; exact DataW.trod_lt m _ _ _ hm
  obtain ⟨⟨c4⟩, rfl, _⟩ := okWide_struct Try.underlying48 (hval 4 48 v4 rfl rfl)
  have r104 : Rd48 W c4 := by obtain ⟨fuel, hf⟩ := h4; exact rd48 hf
  have k5 := h5
  have lt5 : ∀ x ∈ p5, x.block < W.heap.size := by obtain ⟨m, hm⟩ := k5; exact DataW.trod_lt m _ _ _ hm
  obtain ⟨a5, rfl⟩ := okWide_int Try.underlying3 (hval 5 3 v5 rfl rfl)
  have r105 : Rd3 W [.int .i64 a5] := by obtain ⟨fuel, hf⟩ := h5; exact rd3 hf
  clear hA0 hval0
  refine (walk _ _ _ _ c4 _ W r100 r101 r102 r103 r104 r105).mono fun e W' ⟨he, bel⟩ => ?_
  subst he
  exact ⟨_, rfl, _, _, _, [], _, [], hW', trodAll_mk1 (shut_bool Try.underlying4 _), (trodAll_cons_mk (Below.trod laidOut (by kernel_rfl) (of_decide_eq_true (by kernel_rfl)) k0 bel lt0) (trodAll_cons_mk (Below.trod laidOut (by kernel_rfl) (of_decide_eq_true (by kernel_rfl)) k1 bel lt1) (trodAll_cons_mk (Below.trod laidOut (by kernel_rfl) (of_decide_eq_true (by kernel_rfl)) k2 bel lt2) (trodAll_cons_mk (Below.trod laidOut (by kernel_rfl) (of_decide_eq_true (by kernel_rfl)) k3 bel lt3) (trodAll_cons_mk (Below.trod laidOut (by kernel_rfl) (of_decide_eq_true (by kernel_rfl)) k4 bel lt4) (trodAll_cons_mk (Below.trod laidOut (by kernel_rfl) (of_decide_eq_true (by kernel_rfl)) k5 bel lt5) trodAll_mk0)))))), rfl, bel.frame _, fun h => by cases h⟩

theorem over : Rows.retroIterateRow.holds Try.pinned (OpenSpec.ofChange Rows.retroIterateSpec) :=
  OpenClaim.holds_of_wide 7 Try.f7 rfl rfl rfl rfl rfl rfl rfl ⟨rfl, rfl, rfl, rfl, rfl⟩ rfl rfl rfl rfl rfl (by kernel_rfl) Try.func7 (by kernel_rfl)
    (of_decide_eq_true (by kernel_rfl)) (by unfold Func.isWrapper; first | (rw [if_pos (by decide +kernel)]; kernel_rfl) | (rw [if_neg (by decide +kernel)]; exact ⟨rfl, rfl⟩))
    (fun os started H enc _ => lifted os started H enc)

/-- the statement -/
theorem proved : Rows.RetroIterateSaid := over
#print axioms proved
end Go.Proofs.Ytdfajopniflaaaa.retroIterate
