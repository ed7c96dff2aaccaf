/- The law RetroSolve: both extreme solutions, their rounds and the status are the specified ones, for all arguments. No condition. -/
import Derived.Test.YtdfajopniflaaaaRows
import Derived.Test.YtdfajopniflaaaaRead
import Derived.Test.YtdfajopniflaaaaReAw
import Derived.Test.YtdfajopniflaaaaReRS
import Derived.Test.YtdfajopniflaaaaReArgs
import Derived.WalkKit
import Derived.ProofKit
import Derived.OpenShut
import Derived.ShutString
import Derived.ChangeOld
import Derived.Below
namespace Go.Proofs.Ytdfajopniflaaaa.retroSolve
open Go.ChangeShapes Go.WideShapes Go.ChangeAt Go.RowKit
set_option linter.unusedVariables false

theorem own : ownKnob Try.prog.godebug = none := by kernel_rfl
theorem laidOut : laidOutB Try.prog = true := by kernel_rfl

def pick {α : Type} (j : Nat) (a b : α) : α := if j = 0 then a else b
/-- what holds at the head of every round -/
structure Rnd (w : World) (A A2 B B2 : Option Addr) (n c m c2 n' c' m' c2' bs : Nat) (o o' : Nat → Int) (R R' : Nat → Re.Rt) (t : TypeId) (wr : World) : Prop where
  bel : Below w.heap.size w wr
  own : Nums wr wr.heap.size A n o
  rs : Rets wr wr.heap.size A2 m R
  own' : Nums wr wr.heap.size B n' o'
  rs' : Rets wr wr.heap.size B2 m' R'
  has : Has wr bs #[.slice A n c, .slice A2 m c2, .slice B n' c', .slice B2 m' c2'] t
section
variable {w : World} {A A2 B B2 : Option Addr} {n c m c2 n' c' m' c2' bs : Nat} {o o' : Nat → Int} {R R' : Nat → Re.Rt} {t : TypeId} {wr w' : World}
theorem Rnd.below (h : Rnd w A A2 B B2 n c m c2 n' c' m' c2' bs o o' R R' t wr) (hb : Below wr.heap.size wr w') : Rnd w A A2 B B2 n c m c2 n' c' m' c2' bs o o' R R' t w' :=
  ⟨h.bel.trans (hb.mono h.bel.size), (h.own.below hb).mono hb.size, (h.rs.below hb).mono hb.size, (h.own'.below hb).mono hb.size, (h.rs'.below hb).mono hb.size, h.has.below hb h.has.lt⟩
theorem Rnd.cell (h : Rnd w A A2 B B2 n c m c2 n' c' m' c2' bs o o' R R' t wr) (j : Nat) (hj : j < 2) :
    wr.cell? ⟨bs, j * 2, none⟩ = some (.slice (pick j A B) (pick j n n') (pick j c c')) ∧ wr.cell? ⟨bs, j * 2 + 1, none⟩ = some (.slice (pick j A2 B2) (pick j m m') (pick j c2 c2')) ∧ Nums wr wr.heap.size (pick j A B) (pick j n n') (pick j o o') ∧ Rets wr wr.heap.size (pick j A2 B2) (pick j m m') (pick j R R') := by
  match j, hj with
  | 0, _ => exact ⟨h.has.cell 0, h.has.cell 1, h.own, h.rs⟩
  | 1, _ => exact ⟨h.has.cell 2, h.has.cell 3, h.own', h.rs'⟩
end

set_option maxHeartbeats 4000000 in
set_option maxRecDepth 100000 in
theorem walk (v0 : Value) (v1 : Value) (v2 : Value) (w : World) (h0 : Rd22 w [v0]) (h1 : Rd23 w [v1]) (h2 : Rd22 w [v2]) :
    Calls Try.prog 3 #[v0, v1, v2] w fun e w' => e = .returned (.bool true) ∧ Below w.heap.size w w' := by
  obtain ⟨A, n, c, o, rfl, hn, _, _, hc, _⟩ := rd_ints h0
  obtain ⟨A2, m, c2, R, rfl, hm, _, _, hr⟩ := rd_retros h1
  obtain ⟨AD, nd, cd, zd, rfl, hnd, _, _, hdc, _⟩ := rd_ints h2
  have HC : Hid (Nums w w.heap.size A n o) := Lib.hid hc
  have HR := Lib.hid hr
  have HDC := Lib.hid hdc
  clear h0 h1 h2 hc hr hdc
  by_cases hl1 : 30 < n
  · go_enter Try.func3, Try.ntmps3
    go_wp2_with (first | (go_at_call 9; refine (awake39_any _).mono ?_; rintro e w99 ⟨rfl, hb99⟩))
    go_ret
    exact ⟨rfl, hb99⟩
  by_cases hl2 : 40 < m
  · have hl1' : n ≤ 30 := by omega
    go_enter Try.func3, Try.ntmps3
    go_wp2_with (first | (go_at_call 9; refine (awake39_any _).mono ?_; rintro e w99 ⟨rfl, hb99⟩))
    go_ret
    exact ⟨rfl, hb99⟩
  have hl1' : n ≤ 30 := by omega
  have hl2' : m ≤ 40 := by omega
  clear hl1 hl2
  obtain ⟨bd, hbd⟩ : ∃ b, w.heap.size = b := ⟨_, rfl⟩
  have CN := Lib.hid (new2_any AD nd cd zd w hnd HDC.out)
  rw [hbd] at CN
  go_enter Try.func3, Try.ntmps3
  go_wp2_with fail
  refine CN.out.mono ?_
  rintro e w1 ⟨rfl, hb, hd⟩
  have HB : Hid (Below w.heap.size w w1) := Lib.hid (by rw [hbd]; exact hb)
  have HD := Lib.hid hd
  clear hb hd HDC CN
  go_wp2_with fail
  refine (retros_any _ _ HD.out).mono ?_
  intro e w2 hpost
  obtain ⟨g, n', m', B2, k2, o', R', rfl, hn1, hn5, hm6, hg, _, _, ho1, hr1, _, _, _, _, hk, hd⟩ := retros_use hpost HD.out.lt
  replace HB : Hid (Below w.heap.size w w2) := Lib.hid (HB.out.trans (hk.below (by omega) HB.out.size))
  have HO := Lib.hid ho1
  have HRR := Lib.hid hr1
  clear hpost hk hd ho1 hr1 HD
  have hz2 := HB.out.size
  obtain ⟨W4, hW4⟩ : ∃ W, w2.alloc (.cells #[.slice A n c, .slice A2 m c2, .slice (some ⟨g, 0, none⟩) n' n', .slice B2 m' k2] 29) = W := ⟨_, rfl⟩
  have hb4 : Below w2.heap.size w2 W4 := by rw [← hW4]; exact (Below.refl _ _).alloc (Nat.le_refl _) _
  have HRN : Hid (Rnd w A A2 (some ⟨g, 0, none⟩) B2 n c m c2 n' n' m' k2 w2.heap.size o o' R R' 29 W4) := Lib.hid ⟨HB.out.trans (hb4.mono hz2), ((HC.out.below (HB.out.trans (hb4.mono hz2)))).mono (HB.out.trans (hb4.mono hz2)).size, ((HR.out.below (HB.out.trans (hb4.mono hz2)))).mono (HB.out.trans (hb4.mono hz2)).size, (HO.out.below hb4).mono hb4.size, (HRR.out.below hb4).mono hb4.size, by rw [← hW4]; exact Has.new w2 _ _⟩
  obtain ⟨bs, hbs⟩ : ∃ b, w2.heap.size = b := ⟨_, rfl⟩
  rw [hbs] at HRN
  clear hb4
  go_wp2_with fail
  clear hW4 hbs HB HC HR HO HRR hz2 hm hn
  go_loopw [10, 11, 12, 13, 14, 15, 16, 17, 18, 19, 20, 21, 22, 23, 24, 25, 26, 50] (fun _ _ _ _ _ _ _ _ _ _ _ _ _ _ _ _ _ i wr => ∃ j : Nat, j ≤ 2 ∧ i = .int .i64 j ∧ Hid (Rnd w A A2 (some ⟨g, 0, none⟩) B2 n c m c2 n' n' m' k2 bs o o' R R' 29 wr)) (fun _ _ _ _ _ _ _ _ _ _ _ _ _ _ _ _ _ i _ => 2 - (intOf i).toNat)
  case atStart => exact ⟨0, by omega, rfl, HRN⟩
  case round =>
    clear HRN
    obtain ⟨j, hj, rfl, HRN⟩ := hrel
    by_cases hlt : j < 2
    · obtain ⟨hc0, hc1, ho, hr⟩ := HRN.out.cell j hlt
      have hnb : pick j n n' ≤ 30 := by unfold pick; split <;> omega
      have hmb : pick j m m' ≤ 40 := by unfold pick; split <;> omega
      obtain ⟨P, hP⟩ : ∃ Z, pick j A (some ⟨g, 0, none⟩) = Z := ⟨_, rfl⟩
      obtain ⟨np, hnp⟩ : ∃ Z, pick j n n' = Z := ⟨_, rfl⟩
      obtain ⟨cp, hcp⟩ : ∃ Z, pick j c n' = Z := ⟨_, rfl⟩
      obtain ⟨Q, hQ⟩ : ∃ Z, pick j A2 B2 = Z := ⟨_, rfl⟩
      obtain ⟨mq, hmq⟩ : ∃ Z, pick j m m' = Z := ⟨_, rfl⟩
      obtain ⟨cq, hcq⟩ : ∃ Z, pick j c2 k2 = Z := ⟨_, rfl⟩
      obtain ⟨oo, hoo⟩ : ∃ Z, pick j o o' = Z := ⟨_, rfl⟩
      obtain ⟨RR, hRR⟩ : ∃ Z, pick j R R' = Z := ⟨_, rfl⟩
      rw [hP, hnp, hcp] at hc0
      rw [hQ, hmq, hcq] at hc1
      rw [hP, hnp, hoo] at ho
      rw [hQ, hmq, hRR] at hr
      rw [hnp] at hnb
      rw [hmq] at hmb
      have HO := Lib.hid ho
      have HR := Lib.hid hr
      have hbl := HRN.out.has.lt
      clear hP hnp hcp hQ hmq hcq hoo hRR ho hr
      have hj0 : (0 : Int) ≤ j := by omega
      have hj1 : (j : Int) < 2 := by omega
      obtain ⟨W5, hW5⟩ : ∃ W, wr.alloc (.cells #[.slice P np cp, .slice Q mq cq] 29) = W := ⟨_, rfl⟩
      have hb5 : Below wr.heap.size wr W5 := by rw [← hW5]; exact (Below.refl _ _).alloc (Nat.le_refl _) _
      have HX : Hid (Has W5 wr.heap.size #[.slice P np cp, .slice Q mq cq] 29) := Lib.hid (by rw [← hW5]; exact Has.new wr _ _)
      replace HRN := Lib.hid (HRN.out.below hb5)
      replace HO := Lib.hid ((HO.out.below hb5).mono hb5.size)
      replace HR := Lib.hid ((HR.out.below hb5).mono hb5.size)
      obtain ⟨bx, hbx⟩ : ∃ b, wr.heap.size = b := ⟨_, rfl⟩
      rw [hbx] at HX
      obtain ⟨d0, d1, d2⟩ := HX.out.rules
      clear hb5
      obtain ⟨V, hV⟩ : ∃ V, Re.verr np oo mq RR = V := ⟨_, rfl⟩
      obtain ⟨s1, hs1⟩ : ∃ s, Re.least np oo mq RR = s := ⟨_, rfl⟩
      obtain ⟨s2, hs2⟩ : ∃ s, Re.greatest np oo mq RR = s := ⟨_, rfl⟩
      have CL1 : Hid (∀ W : World, Below W5.heap.size W5 W → Calls Try.prog 12 #[.slice P np cp, .slice Q mq cq] W (TriPost np (Re.sev V s1) (Re.sop V s1) W)) := Lib.hid fun W hb => by
        have := least_any P np cp oo Q mq cq RR W (by omega) (by omega) ((HO.out.below hb).mono hb.size) ((HR.out.below hb).mono hb.size)
        rw [hV, hs1] at this
        exact this
      have CL2 : Hid (∀ W : World, Below W5.heap.size W5 W → Calls Try.prog 13 #[.slice P np cp, .slice Q mq cq] W (TriPost np (Re.sev V s1) (Re.sop V s1) W)) := Lib.hid fun W hb => by
        have := rleast_any P np cp oo Q mq cq RR W (by omega) (by omega) ((HO.out.below hb).mono hb.size) ((HR.out.below hb).mono hb.size)
        rw [hV, hs1] at this
        exact this
      have CG1 : Hid (∀ W : World, Below W5.heap.size W5 W → Calls Try.prog 14 #[.slice P np cp, .slice Q mq cq] W (TriPost np (Re.sev V s2) (Re.sop V s2) W)) := Lib.hid fun W hb => by
        have := greatest_any P np cp oo Q mq cq RR W (by omega) (by omega) ((HO.out.below hb).mono hb.size) ((HR.out.below hb).mono hb.size)
        rw [hV, hs2] at this
        exact this
      have CG2 : Hid (∀ W : World, Below W5.heap.size W5 W → Calls Try.prog 15 #[.slice P np cp, .slice Q mq cq] W (TriPost np (Re.sev V s2) (Re.sop V s2) W)) := Lib.hid fun W hb => by
        have := rgreatest_any P np cp oo Q mq cq RR W (by omega) (by omega) ((HO.out.below hb).mono hb.size) ((HR.out.below hb).mono hb.size)
        rw [hV, hs2] at this
        exact this
      have CS1 : Hid (∀ W : World, Below W5.heap.size W5 W → Calls Try.prog 16 #[.slice P np cp, .slice Q mq cq] W (CircPost np V s1 s2 W)) := Lib.hid fun W hb => by
        have := solve_any P np cp oo Q mq cq RR W (by omega) (by omega) ((HO.out.below hb).mono hb.size) ((HR.out.below hb).mono hb.size)
        rw [hV, hs1, hs2] at this
        exact this
      have CS2 : Hid (∀ W : World, Below W5.heap.size W5 W → Calls Try.prog 17 #[.slice P np cp, .slice Q mq cq] W (CircPost np V s1 s2 W)) := Lib.hid fun W hb => by
        have := rsolve_any P np cp oo Q mq cq RR W (by omega) (by omega) ((HO.out.below hb).mono hb.size) ((HR.out.below hb).mono hb.size)
        rw [hV, hs1, hs2] at this
        exact this
      clear hV hs1 hs2 HO HR
      have HE := Lib.hid (Below.refl W5.heap.size W5)
      go_wp2_with fail
      clear hW5 hbx hc0 hc1
      refine (CL1.out _ HE.out).mono ?_
      rintro e w6 ⟨X1, mX1, cX1, rfl, hb, hmX1, hX1, _⟩
      replace HE : Hid (Below W5.heap.size W5 w6) := Lib.hid (HE.out.trans (hb.mono HE.out.size))
      replace HX := Lib.hid (HX.out.below hb HX.out.lt)
      have HMX1 := Lib.hid hmX1
      have HX1 := Lib.hid hX1
      clear hb hmX1 hX1 CL1 d0 d1 d2
      obtain ⟨d0, d1, d2⟩ := HX.out.rules
      go_wp2_with fail
      refine (CL2.out _ HE.out).mono ?_
      rintro e w7 ⟨Y1, mY1, cY1, rfl, hb, hmY1, hY1, _⟩
      replace HE : Hid (Below W5.heap.size W5 w7) := Lib.hid (HE.out.trans (hb.mono HE.out.size))
      replace HX := Lib.hid (HX.out.below hb HX.out.lt)
      have HMY1 := Lib.hid hmY1
      have HY1 := Lib.hid hY1
      replace HX1 := Lib.hid ((HX1.out.below hb).mono hb.size)
      clear hb hmY1 hY1 CL2 d0 d1 d2
      obtain ⟨d0, d1, d2⟩ := HX.out.rules
      go_wp2_with fail
      refine (CG1.out _ HE.out).mono ?_
      rintro e w8 ⟨X2, mX2, cX2, rfl, hb, hmX2, hX2, _⟩
      replace HE : Hid (Below W5.heap.size W5 w8) := Lib.hid (HE.out.trans (hb.mono HE.out.size))
      replace HX := Lib.hid (HX.out.below hb HX.out.lt)
      have HMX2 := Lib.hid hmX2
      have HX2 := Lib.hid hX2
      replace HX1 := Lib.hid ((HX1.out.below hb).mono hb.size)
      replace HY1 := Lib.hid ((HY1.out.below hb).mono hb.size)
      clear hb hmX2 hX2 CG1 d0 d1 d2
      obtain ⟨d0, d1, d2⟩ := HX.out.rules
      go_wp2_with fail
      refine (CG2.out _ HE.out).mono ?_
      rintro e w9 ⟨Y2, mY2, cY2, rfl, hb, hmY2, hY2, _⟩
      replace HE : Hid (Below W5.heap.size W5 w9) := Lib.hid (HE.out.trans (hb.mono HE.out.size))
      replace HX := Lib.hid (HX.out.below hb HX.out.lt)
      have HMY2 := Lib.hid hmY2
      have HY2 := Lib.hid hY2
      replace HX1 := Lib.hid ((HX1.out.below hb).mono hb.size)
      replace HY1 := Lib.hid ((HY1.out.below hb).mono hb.size)
      replace HX2 := Lib.hid ((HX2.out.below hb).mono hb.size)
      clear hb hmY2 hY2 CG2 d0 d1 d2
      obtain ⟨d0, d1, d2⟩ := HX.out.rules
      obtain rfl : mX1 = mY1 := by rw [HMX1.out, HMY1.out]
      obtain rfl : mX2 = mY2 := by rw [HMX2.out, HMY2.out]
      have hm1 : mX1 ≤ 30 := by rw [HMX1.out]; split <;> omega
      have hm2 : mX2 ≤ 30 := by rw [HMX2.out]; split <;> omega
      obtain ⟨q1, hq1⟩ : ∃ q, Re.rnd (Re.sop V s1) = q := ⟨_, rfl⟩
      obtain ⟨q2, hq2⟩ : ∃ q, Re.rnd (Re.sop V s2) = q := ⟨_, rfl⟩
      obtain ⟨v1, hv1⟩ : ∃ q, Re.sev V s1 = q := ⟨_, rfl⟩
      obtain ⟨v2, hv2⟩ : ∃ q, Re.sev V s2 = q := ⟨_, rfl⟩
      clear HMX1 HMX2 HMY1 HMY2
      go_wp2_with fail
      refine (CS1.out _ HE.out).mono ?_
      rintro e w10 ⟨X3, X4, m3, c3, c4, rfl, hb, hm3, hx3, hx4⟩
      replace HE : Hid (Below W5.heap.size W5 w10) := Lib.hid (HE.out.trans (hb.mono HE.out.size))
      replace HX := Lib.hid (HX.out.below hb HX.out.lt)
      have HM3 := Lib.hid hm3
      have HX3 := Lib.hid hx3
      have HX4 := Lib.hid hx4
      replace HX1 := Lib.hid ((HX1.out.below hb).mono hb.size)
      replace HY1 := Lib.hid ((HY1.out.below hb).mono hb.size)
      replace HX2 := Lib.hid ((HX2.out.below hb).mono hb.size)
      replace HY2 := Lib.hid ((HY2.out.below hb).mono hb.size)
      clear hb hm3 hx3 hx4 CS1 d0 d1 d2
      obtain ⟨st, hst⟩ : ∃ q, Re.cst np V s1 s2 = q := ⟨_, rfl⟩
      obtain ⟨t1, ht1⟩ : ∃ q, Re.crn V s1 s2 (Re.rnd s1) = q := ⟨_, rfl⟩
      obtain ⟨t2, ht2⟩ : ∃ q, Re.crn V s1 s2 (Re.rnd s2) = q := ⟨_, rfl⟩
      rw [hst, ht1, ht2]
      obtain ⟨W11, hW11⟩ : ∃ W, w10.alloc (.cells #[.int .i64 st, .slice X3 m3 c3, .slice X4 m3 c4, .int .i64 t1, .int .i64 t2] 36) = W := ⟨_, rfl⟩
      have hb : Below w10.heap.size w10 W11 := by rw [← hW11]; exact (Below.refl _ _).alloc (Nat.le_refl _) _
      have HZ1 : Hid (Has W11 w10.heap.size #[.int .i64 st, .slice X3 m3 c3, .slice X4 m3 c4, .int .i64 t1, .int .i64 t2] 36) := Lib.hid (by rw [← hW11]; exact Has.new w10 _ _)
      replace HE : Hid (Below W5.heap.size W5 W11) := Lib.hid (HE.out.trans (hb.mono HE.out.size))
      replace HX := Lib.hid (HX.out.below hb HX.out.lt)
      replace HX1 := Lib.hid ((HX1.out.below hb).mono hb.size)
      replace HY1 := Lib.hid ((HY1.out.below hb).mono hb.size)
      replace HX2 := Lib.hid ((HX2.out.below hb).mono hb.size)
      replace HY2 := Lib.hid ((HY2.out.below hb).mono hb.size)
      replace HX3 := Lib.hid ((HX3.out.below hb).mono hb.size)
      replace HX4 := Lib.hid ((HX4.out.below hb).mono hb.size)
      obtain ⟨z1, hz1⟩ : ∃ b, w10.heap.size = b := ⟨_, rfl⟩
      rw [hz1] at HZ1
      obtain ⟨d0, d1, d2⟩ := HX.out.rules
      clear hb
      go_wp2_with fail
      clear hW11 hz1 d0 d1 d2
      refine (CS2.out _ HE.out).mono ?_
      rintro e w12 ⟨X5, X6, m5, c5, c6, rfl, hb, hm5, hx5, hx6⟩
      rw [hst, ht1, ht2]
      replace HE : Hid (Below W5.heap.size W5 w12) := Lib.hid (HE.out.trans (hb.mono HE.out.size))
      obtain rfl : m3 = m5 := by rw [HM3.out, hm5]
      have hm3 : m3 ≤ 30 := by rw [HM3.out]; split <;> omega
      replace HZ1 := Lib.hid (HZ1.out.below hb HZ1.out.lt)
      have HX5 := Lib.hid hx5
      have HX6 := Lib.hid hx6
      replace HX1 := Lib.hid ((HX1.out.below hb).mono hb.size)
      replace HY1 := Lib.hid ((HY1.out.below hb).mono hb.size)
      replace HX2 := Lib.hid ((HX2.out.below hb).mono hb.size)
      replace HY2 := Lib.hid ((HY2.out.below hb).mono hb.size)
      replace HX3 := Lib.hid ((HX3.out.below hb).mono hb.size)
      replace HX4 := Lib.hid ((HX4.out.below hb).mono hb.size)
      clear hb hm5 hx5 hx6 CS2 HM3 HX hst ht1 ht2
      obtain ⟨W13, hW13⟩ : ∃ W, w12.alloc (.cells #[.int .i64 st, .slice X5 m3 c5, .slice X6 m3 c6, .int .i64 t1, .int .i64 t2] 36) = W := ⟨_, rfl⟩
      have hb : Below w12.heap.size w12 W13 := by rw [← hW13]; exact (Below.refl _ _).alloc (Nat.le_refl _) _
      have HZ2 : Hid (Has W13 w12.heap.size #[.int .i64 st, .slice X5 m3 c5, .slice X6 m3 c6, .int .i64 t1, .int .i64 t2] 36) := Lib.hid (by rw [← hW13]; exact Has.new w12 _ _)
      replace HE : Hid (Below W5.heap.size W5 W13) := Lib.hid (HE.out.trans (hb.mono HE.out.size))
      replace HZ1 := Lib.hid (HZ1.out.below hb HZ1.out.lt)
      replace HX1 := Lib.hid ((HX1.out.below hb).mono hb.size)
      replace HY1 := Lib.hid ((HY1.out.below hb).mono hb.size)
      replace HX2 := Lib.hid ((HX2.out.below hb).mono hb.size)
      replace HY2 := Lib.hid ((HY2.out.below hb).mono hb.size)
      replace HX3 := Lib.hid ((HX3.out.below hb).mono hb.size)
      replace HX4 := Lib.hid ((HX4.out.below hb).mono hb.size)
      replace HX5 := Lib.hid ((HX5.out.below hb).mono hb.size)
      replace HX6 := Lib.hid ((HX6.out.below hb).mono hb.size)
      obtain ⟨z2, hz2⟩ : ∃ b, w12.heap.size = b := ⟨_, rfl⟩
      rw [hz2] at HZ2
      obtain ⟨d0, d1, d2⟩ := HZ1.out.rules
      obtain ⟨e0, e1, e2⟩ := HZ2.out.rules
      clear hb
      go_wp2_with fail
      clear hW13 hz2 hq1 hq2 hv1 hv2
      refine (same_yes X1 Y1 mX1 cX1 cY1 _ W13.heap.size W13.heap.size W13 (by omega) HX1.out HY1.out).mono ?_
      rintro e w14 ⟨rfl, nq, rfl⟩
      go_wp2_with fail
      refine (same_yes X2 Y2 mX2 cX2 cY2 _ W13.heap.size W13.heap.size (W13.drewN nq) (by omega) (HX2.out.drewN nq) (HY2.out.drewN nq)).mono ?_
      rintro e w15 ⟨rfl, nq2, rfl⟩
      go_wp2_with fail
      refine (samecircle_yes st t1 t2 X3 X4 X5 X6 m3 c3 c4 c5 c6 (Re.lst s1) (Re.lst s2) _ (by omega) (Nums.drewN HX3.out _) (Nums.drewN HX4.out _) (Nums.drewN HX5.out _) (Nums.drewN HX6.out _)).mono ?_
      rintro e w16 ⟨rfl, hb⟩
      have HRN2 := Lib.hid ((HRN.out.below (below_drewN HE.out (nq + nq2))).below hb)
      clear hb
      go_wp2_with fail
      go_roundw
      case rel => exact ⟨j + 1, by omega, by go_num, HRN2⟩
      case measure => simp [intOf]; omega
    · have HB := Lib.hid HRN.out.bel
      go_wp2_with (first | (go_at_call 9; refine (awake39_any _).mono ?_; rintro e w99 ⟨rfl, hb99⟩))
      go_ret
      exact ⟨rfl, HB.out.trans (hb99.mono HB.out.size)⟩

set_option maxRecDepth 100000 in
theorem lifted (os : Os) (started : os.Started) (H : Type) (enc : TypeId × Value → H) :
    ReturnsInHanded {} Try.checked os 3 .any (Rows.retroSolveSpec.pre6 enc Try.prog Try.f3 Rows.retroSolveRow.domain false) (Rows.retroSolveSpec.post enc Try.prog Try.f3 false true false false) := by
  refine returnsInHanded_of_change (C := Try.checked) own started (by kernel_rfl) Try.func3
    (ChangeSpec.witness6 (enc := enc) (C := Try.checked) false ⟨#[], #[.slice none 0 0, .slice none 0 0, .slice none 0 0], []⟩ 8 (by kernel_rfl) (by kernel_rfl) (by kernel_rfl) (by kernel_rfl)) ?_
  intro W base args ds gs before hval0 hW hcnd _
  have hval : ∀ (j : Nat) t v, Try.f3.params[j]? = some t → args[j]? = some v → Value.okWide Try.prog W .any base t v := hval0
  have hW' := hW
  obtain ⟨p, q, hA0, hV, rfl, hfz, hnd⟩ := hW
  have hA : DataW.TrodAll enc Try.prog W 0 (fun _ => true) true Try.f3.params.toList args.toList ds p := hA0
  rw [Try.params3] at hA hval
  obtain ⟨v0, vs0, d0, ds0, p0, q0, hargs, rfl, rfl, h0, r0⟩ := trodAll_cons hA
  obtain ⟨v1, vs1, d1, ds1, p1, q1, rfl, rfl, rfl, h1, r1⟩ := trodAll_cons r0
  obtain ⟨v2, vs2, d2, ds2, p2, q2, rfl, rfl, rfl, h2, r2⟩ := trodAll_cons r1
  obtain ⟨rfl, rfl, rfl⟩ := trodAll_nil r2
  obtain rfl : args = #[v0, v1, v2] := by cases args; simp_all
  obtain ⟨rfl, rfl⟩ := trodVars_none hV
  have k0 := h0
  have lt0 : ∀ x ∈ p0, x.block < W.heap.size := by obtain ⟨m, hm⟩ := k0; exact DataW.trod_lt m _ _ _ hm
  obtain ⟨a0, len0, cap0, rfl⟩ := okWide_slice Try.underlying22 (hval 0 22 v0 rfl rfl)
  have r100 : Rd22 W [.slice a0 len0 cap0] := by obtain ⟨fuel, hf⟩ := h0; exact rd22 hf
  have k1 := h1
  have lt1 : ∀ x ∈ p1, x.block < W.heap.size := by obtain ⟨m, hm⟩ := k1; exact DataW.trod_lt m _ _ _ hm
  obtain ⟨a1, len1, cap1, rfl⟩ := okWide_slice Try.underlying23 (hval 1 23 v1 rfl rfl)
  have r101 : Rd23 W [.slice a1 len1 cap1] := by obtain ⟨fuel, hf⟩ := h1; exact rd23 hf
  have k2 := h2
  have lt2 : ∀ x ∈ p2, x.block < W.heap.size := by obtain ⟨m, hm⟩ := k2; exact DataW.trod_lt m _ _ _ hm
  obtain ⟨a2, len2, cap2, rfl⟩ := okWide_slice Try.underlying22 (hval 2 22 v2 rfl rfl)
  have r102 : Rd22 W [.slice a2 len2 cap2] := by obtain ⟨fuel, hf⟩ := h2; exact rd22 hf
  clear hA0 hval0
  refine (walk _ _ _ W r100 r101 r102).mono fun e W' ⟨he, bel⟩ => ?_
  subst he
  exact ⟨_, rfl, _, _, _, [], _, [], hW', trodAll_mk1 (shut_bool Try.underlying4 _), (trodAll_cons_mk (Below.trod laidOut (by kernel_rfl) (of_decide_eq_true (by kernel_rfl)) k0 bel lt0) (trodAll_cons_mk (Below.trod laidOut (by kernel_rfl) (of_decide_eq_true (by kernel_rfl)) k1 bel lt1) (trodAll_cons_mk (Below.trod laidOut (by kernel_rfl) (of_decide_eq_true (by kernel_rfl)) k2 bel lt2) trodAll_mk0))), rfl, bel.frame _, fun h => by cases h⟩

theorem over : Rows.retroSolveRow.holds Try.pinned (OpenSpec.ofChange Rows.retroSolveSpec) :=
  OpenClaim.holds_of_wide 3 Try.f3 rfl rfl rfl rfl rfl rfl rfl ⟨rfl, rfl, rfl, rfl, rfl⟩ rfl rfl rfl rfl rfl (by kernel_rfl) Try.func3 (by kernel_rfl)
    (of_decide_eq_true (by kernel_rfl)) (by unfold Func.isWrapper; first | (rw [if_pos (by decide +kernel)]; kernel_rfl) | (rw [if_neg (by decide +kernel)]; exact ⟨rfl, rfl⟩))
    (fun os started H enc _ => lifted os started H enc)

/-- the statement -/
theorem proved : Rows.RetroSolveSaid := over
#print axioms proved
end Go.Proofs.Ytdfajopniflaaaa.retroSolve
