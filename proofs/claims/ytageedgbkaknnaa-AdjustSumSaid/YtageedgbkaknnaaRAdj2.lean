/- The reference's Adjust returns Ad.res, for every decision and item. -/
import Derived.Test.YtageedgbkaknnaaRAdj
namespace Go.Proofs.Ytageedgbkaknnaa
open Go.RowKit

theorem Ad.paid_of (D : Ad.Dec) (X : Ad.Itm) (p fr de k ov : Int) (h1 : Ad.r1 D X = p) (h2 : fr = if D.f ≤ p then 0 else p) (h3 : de = min (p - fr) D.d)
    (h4 : k = (Am.md (p - fr - de) D.c 1000000 4).1) (h5 : ov = if D.l = -1 then 0 else max 0 (p - fr - de - k - D.l)) :
    Ad.paid D X = ⟨X.gross, 0, X.gross - p, fr, de, k, ov, 0, p - fr - de - k - ov⟩ := by
  have e0 : Ad.aver D X = X.gross - p := by rw [← h1, Ad.r1]; omega
  have e1 : Ad.fran D X = fr := by rw [Ad.fran, h1, h2]
  have e2 : Ad.r2 D X = p - fr := by rw [Ad.r2, h1, e1]
  have e3 : Ad.ded D X = de := by rw [Ad.ded, e2, h3]
  have e4 : Ad.r3 D X = p - fr - de := by rw [Ad.r3, e2, e3]
  have e5 : Ad.coin D X = k := by rw [Ad.coin, e4, h4]
  have e6 : Ad.r4 D X = p - fr - de - k := by rw [Ad.r4, e4, e5]
  have e7 : Ad.over D X = ov := by rw [Ad.over, e6, h5]
  rw [Ad.paid, Ad.net, e0, e1, e3, e5, e6, e7]

theorem rshare_part (a c : Int) (w : World) (a0 : 0 ≤ a) (a1 : a ≤ 1073741824) (c0 : 0 ≤ c) (c1 : c ≤ 1000000) :
    Calls Try.prog 29 #[.int .i64 a, .int .i64 c, .int .i64 4] w fun e w' => ∃ n : Int, e = .returned (.tuple #[.int .i64 n, .int .i64 0]) ∧ 0 ≤ n ∧ n ≤ a ∧ Hid (n = (Am.md a c 1000000 4).1) ∧ ∃ m, w' = w.drewN m := by
  obtain ⟨n, e, n0, n1⟩ := Ad.md_part a c 1000000 a0 (by omega) c0 c1 (by omega) (by omega)
  have := rshare_any a c 4 w
  rw [e] at this
  exact this.mono fun r w' ⟨h1, h2⟩ => ⟨n, h1, n0, n1, Lib.hid (by rw [e]), h2⟩

theorem rmd_part (a num den : Int) (w : World) (a0 : 0 ≤ a) (a1 : a ≤ 1073741824) (n0 : 0 ≤ num) (n1 : num ≤ den) (d0 : 1 ≤ den) (d1 : den ≤ 1073741824) :
    Calls Try.prog 28 #[.int .i64 a, .int .i64 num, .int .i64 den, .int .i64 4] w fun e w' => ∃ n : Int, e = .returned (.tuple #[.int .i64 n, .int .i64 0]) ∧ 0 ≤ n ∧ n ≤ a ∧ Hid (n = (Am.md a num den 4).1) ∧ ∃ m, w' = w.drewN m := by
  obtain ⟨n, e, m0, m1⟩ := Ad.md_part a num den a0 (by omega) n0 n1 d0 (by omega)
  have := rmuldiv_any a num den 4 w
  rw [e] at this
  exact this.mono fun r w' ⟨h1, h2⟩ => ⟨n, h1, m0, m1, Lib.hid (by rw [e]), h2⟩

theorem Ad.item_ok {va su gr : Int} (h : Ad.itemErr ⟨va, su, gr⟩ = 0) : Ad.moneyB va = true ∧ Ad.moneyB su = true ∧ Ad.moneyB gr = true := by
  by_cases c : Ad.money va ∧ Ad.money su ∧ Ad.money gr
  · simp only [Ad.money, Ad.moneyB, decide_eq_true_eq] at c ⊢
    exact c
  · rw [Ad.itemErr, if_neg c] at h
    omega

theorem Ad.item_bad {va su gr : Int} (h : Ad.itemErr ⟨va, su, gr⟩ = 1) : Ad.moneyB va = false ∨ Ad.moneyB va = true ∧ (Ad.moneyB su = false ∨ Ad.moneyB su = true ∧ Ad.moneyB gr = false) := by
  by_cases c : Ad.money va ∧ Ad.money su ∧ Ad.money gr
  · rw [Ad.itemErr, if_pos c] at h
    omega
  · simp only [Ad.money, Ad.moneyB, decide_eq_true_eq, decide_eq_false_iff_not] at c ⊢
    omega

theorem decErr_c (v l de fr co : Int) (av : Bool) (e : Int) (he : Ad.derr ⟨v, l, de, fr, co, av⟩ = e) : Hid (∀ W : World,
    Calls Try.prog 26 #[.agg #[.int .i64 v, .int .i64 l, .int .i64 de, .int .i64 fr, .int .i64 co, .bool av]] W
      fun r w' => r = .returned (.int .i64 e) ∧ Ad.box ⟨v, l, de, fr, co, av⟩ W = w') := Lib.hid fun W => by
  have := decErr_any ⟨v, l, de, fr, co, av⟩ W
  rw [he] at this
  exact this

set_option maxHeartbeats 1000000 in
theorem radjust_derr (v l de fr co : Int) (av : Bool) (A : Option Addr) (n c : Nat) (va su gr e : Int) (w : World) (he : Hid (Ad.derr ⟨v, l, de, fr, co, av⟩ = e)) (h0 : (e != 0) = true) :
    Calls Try.prog 10 #[.agg #[.int .i64 v, .int .i64 l, .int .i64 de, .int .i64 fr, .int .i64 co, .bool av], .agg #[.slice A n c, .int .i64 va, .int .i64 su, .int .i64 gr]] w
      fun r w' => r = .returned (.tuple #[Ad.zero.agg, .int .i64 e]) ∧ Below w.heap.size w w' := by
  have CV := decErr_c v l de fr co av e he.out
  clear he
  go_enter Try.func10, Try.ntmps10
  go_wp2_with (go_at_call 26; refine (CV.out _).mono ?_; rintro r w' ⟨rfl, rfl⟩; unfold Ad.box)
  refine bodyPost_ret (v := .tuple #[Ad.zero.agg, .int .i64 e]) (by simp [results, Try.results10, go_sem, Ad.zero, Ad.Adj.agg]) rfl ⟨rfl, by repeat (first | exact Below.refl _ _ | refine Below.alloc ?_ (by simp <;> omega) _ | refine Below.setCell ?_ (by simp <;> omega) _ | refine below_drewN ?_ _)⟩

set_option maxHeartbeats 2000000 in
theorem radjust_ierr (v l de fr co : Int) (av : Bool) (A : Option Addr) (n c : Nat) (va su gr : Int) (w : World) (he : Hid (Ad.derr ⟨v, l, de, fr, co, av⟩ = 0)) (h0 : Hid (Ad.itemErr ⟨va, su, gr⟩ = 1)) :
    Calls Try.prog 10 #[.agg #[.int .i64 v, .int .i64 l, .int .i64 de, .int .i64 fr, .int .i64 co, .bool av], .agg #[.slice A n c, .int .i64 va, .int .i64 su, .int .i64 gr]] w
      fun r w' => r = .returned (.tuple #[Ad.zero.agg, .int .i64 1]) ∧ Below w.heap.size w w' := by
  have CV := decErr_c v l de fr co av 0 he.out
  have hm := Ad.item_bad h0.out
  clear he h0
  rcases hm with h | ⟨h, h2 | ⟨h2, h3⟩⟩
  all_goals
    go_enter Try.func10, Try.ntmps10
    go_wp2_with (first | (go_at_call 26; refine (CV.out _).mono ?_; rintro r w' ⟨rfl, rfl⟩; unfold Ad.box) | (go_at_call 27; refine (rmoney_any _ _).mono ?_; rintro r w' ⟨rfl, rfl⟩))
    refine bodyPost_ret (v := .tuple #[Ad.zero.agg, .int .i64 1]) (by simp [results, Try.results10, go_sem, Ad.zero, Ad.Adj.agg]) rfl ⟨rfl, by repeat (first | exact Below.refl _ _ | refine Below.alloc ?_ (by simp <;> omega) _ | refine Below.setCell ?_ (by simp <;> omega) _ | refine below_drewN ?_ _)⟩

set_option maxHeartbeats 2000000 in
theorem radjust_un (v l de fr co : Int) (av : Bool) (A : Option Addr) (n c : Nat) (va su gr : Int) (w : World) (he : Hid (Ad.derr ⟨v, l, de, fr, co, av⟩ = 0)) (h0 : Hid (Ad.itemErr ⟨va, su, gr⟩ = 0)) (hv : (v != 4) = true) :
    Calls Try.prog 10 #[.agg #[.int .i64 v, .int .i64 l, .int .i64 de, .int .i64 fr, .int .i64 co, .bool av], .agg #[.slice A n c, .int .i64 va, .int .i64 su, .int .i64 gr]] w
      fun r w' => r = .returned (.tuple #[({ Ad.zero with gross := gr, unins := gr } : Ad.Adj).agg, .int .i64 0]) ∧ Below w.heap.size w w' := by
  have CV := decErr_c v l de fr co av 0 he.out
  obtain ⟨h1, h2, h3⟩ := Ad.item_ok h0.out
  clear he h0
  go_enter Try.func10, Try.ntmps10
  go_wp2_with (first | (go_at_call 26; refine (CV.out _).mono ?_; rintro r w' ⟨rfl, rfl⟩; unfold Ad.box) | (go_at_call 27; refine (rmoney_any _ _).mono ?_; rintro r w' ⟨rfl, rfl⟩))
  refine bodyPost_ret (v := .tuple #[({ Ad.zero with gross := gr, unins := gr } : Ad.Adj).agg, .int .i64 0]) (by simp [results, Try.results10, go_sem, Ad.zero, Ad.Adj.agg]) rfl ⟨rfl, by repeat (first | exact Below.refl _ _ | refine Below.alloc ?_ (by simp <;> omega) _ | refine Below.setCell ?_ (by simp <;> omega) _ | refine below_drewN ?_ _)⟩

theorem Ad.ranges {D : Ad.Dec} (hv : D.v = 4) (he : Ad.derr D = 0) : -1 ≤ D.l ∧ D.l ≤ 1073741824 ∧ 0 ≤ D.d ∧ D.d ≤ 1073741824 ∧ 0 ≤ D.f ∧ D.f ≤ 1073741824 ∧ 0 ≤ D.c ∧ D.c ≤ 1000000 := by
  rw [Ad.derr, if_pos hv] at he
  by_cases c : (D.l = -1 ∨ Ad.money D.l) ∧ Ad.money D.d ∧ Ad.money D.f ∧ 0 ≤ D.c ∧ D.c ≤ 1000000
  · unfold Ad.money at c; omega
  · rw [if_neg c] at he; omega

set_option maxHeartbeats 1500000 in
theorem radjust_no (l de fr co : Int) (av : Bool) (A : Option Addr) (n c : Nat) (va su gr : Int) (w : World) (he : Hid (Ad.derr ⟨4, l, de, fr, co, av⟩ = 0)) (h0 : Hid (Ad.itemErr ⟨va, su, gr⟩ = 0)) (hav : (av && decide (su < va)) = false) :
    Calls Try.prog 10 #[.agg #[.int .i64 4, .int .i64 l, .int .i64 de, .int .i64 fr, .int .i64 co, .bool av], .agg #[.slice A n c, .int .i64 va, .int .i64 su, .int .i64 gr]] w
      fun r w' => r = .returned (.tuple #[(Ad.paid ⟨4, l, de, fr, co, av⟩ ⟨va, su, gr⟩).agg, .int .i64 0]) ∧ Below w.heap.size w w' := by
  have CV := decErr_c 4 l de fr co av 0 he.out
  obtain ⟨h1, h2, h3⟩ := Ad.item_ok h0.out
  have hg : 0 ≤ gr ∧ gr ≤ 1073741824 := by simpa [Ad.moneyB] using h3
  obtain ⟨g0, g1⟩ := hg
  obtain ⟨l0, l1, d0, d1, f0, f1, c0, c1⟩ := Ad.ranges rfl he.out
  simp only at l0 l1 d0 d1 f0 f1 c0 c1
  have HP := Lib.hid (Ad.paid_of ⟨4, l, de, fr, co, av⟩ ⟨va, su, gr⟩)
  have HR : Hid (Ad.r1 ⟨4, l, de, fr, co, av⟩ ⟨va, su, gr⟩ = gr) := Lib.hid (by rw [Ad.r1, Ad.aver, if_pos (by simp only; cases av <;> simp_all)]; simp)
  have hav' : av = false ∨ av = true ∧ va ≤ su := by cases av <;> simp_all
  clear he h0 hav
  rcases hav' with rfl | ⟨rfl, hv⟩
  all_goals
    by_cases hf : fr ≤ gr
    · by_cases hl : 0 ≤ l
      · skip
        go_enter Try.func10, Try.ntmps10
        go_wp2_with (first | (go_at_call 26; refine (CV.out _).mono ?_; rintro r w' ⟨rfl, rfl⟩; unfold Ad.box) | (go_at_call 27; refine (rmoney_any _ _).mono ?_; rintro r w' ⟨rfl, rfl⟩) | (go_at_call 29; refine (rshare_part _ _ _ (by omega) (by omega) (by omega) (by omega)).mono ?_; rintro e w' ⟨k, rfl, k0, k1, HK, m, rfl⟩))
        have HQ := HP.out gr 0 (min (gr) de) k (max (gr - min (gr) de - k - l) 0) HR.out (by rw [if_pos hf]) (by simp) (by simpa using HK.out) (by rw [if_neg (by first | omega | (simp only; omega))]; first | omega | (simp only; omega))
        refine bodyPost_ret (v := .tuple #[(Ad.paid ⟨4, l, de, fr, co, _⟩ ⟨va, su, gr⟩).agg, .int .i64 0]) ?_ rfl ⟨rfl, by (repeat' (first | (with_reducible exact Below.refl _ _) | (with_reducible refine Below.setCell ?_ ?_ _) | (with_reducible refine below_drewN ?_ _) | (with_reducible refine Below.alloc ?_ ?_ _))) <;> (simp <;> omega)⟩
        rw [HQ]
        simp [results, Try.results10, go_sem, Ad.Adj.agg] <;> omega
      · skip
        go_enter Try.func10, Try.ntmps10
        go_wp2_with (first | (go_at_call 26; refine (CV.out _).mono ?_; rintro r w' ⟨rfl, rfl⟩; unfold Ad.box) | (go_at_call 27; refine (rmoney_any _ _).mono ?_; rintro r w' ⟨rfl, rfl⟩) | (go_at_call 29; refine (rshare_part _ _ _ (by omega) (by omega) (by omega) (by omega)).mono ?_; rintro e w' ⟨k, rfl, k0, k1, HK, m, rfl⟩))
        have HQ := HP.out gr 0 (min (gr) de) k (0) HR.out (by rw [if_pos hf]) (by simp) (by simpa using HK.out) (by rw [if_pos (by first | omega | (simp only; omega))])
        refine bodyPost_ret (v := .tuple #[(Ad.paid ⟨4, l, de, fr, co, _⟩ ⟨va, su, gr⟩).agg, .int .i64 0]) ?_ rfl ⟨rfl, by (repeat' (first | (with_reducible exact Below.refl _ _) | (with_reducible refine Below.setCell ?_ ?_ _) | (with_reducible refine below_drewN ?_ _) | (with_reducible refine Below.alloc ?_ ?_ _))) <;> (simp <;> omega)⟩
        rw [HQ]
        simp [results, Try.results10, go_sem, Ad.Adj.agg] <;> omega
    · by_cases hl : 0 ≤ l
      · skip
        go_enter Try.func10, Try.ntmps10
        go_wp2_with (first | (go_at_call 26; refine (CV.out _).mono ?_; rintro r w' ⟨rfl, rfl⟩; unfold Ad.box) | (go_at_call 27; refine (rmoney_any _ _).mono ?_; rintro r w' ⟨rfl, rfl⟩) | (go_at_call 29; refine (rshare_part _ _ _ (by omega) (by omega) (by omega) (by omega)).mono ?_; rintro e w' ⟨k, rfl, k0, k1, HK, m, rfl⟩))
        have HQ := HP.out gr gr (min (0) de) k (max (0 - min (0) de - k - l) 0) HR.out (by rw [if_neg (by first | omega | (simp only; omega))]) (by simp) (by simpa using HK.out) (by rw [if_neg (by first | omega | (simp only; omega))]; first | omega | (simp only; omega))
        refine bodyPost_ret (v := .tuple #[(Ad.paid ⟨4, l, de, fr, co, _⟩ ⟨va, su, gr⟩).agg, .int .i64 0]) ?_ rfl ⟨rfl, by (repeat' (first | (with_reducible exact Below.refl _ _) | (with_reducible refine Below.setCell ?_ ?_ _) | (with_reducible refine below_drewN ?_ _) | (with_reducible refine Below.alloc ?_ ?_ _))) <;> (simp <;> omega)⟩
        rw [HQ]
        simp [results, Try.results10, go_sem, Ad.Adj.agg] <;> omega
      · skip
        go_enter Try.func10, Try.ntmps10
        go_wp2_with (first | (go_at_call 26; refine (CV.out _).mono ?_; rintro r w' ⟨rfl, rfl⟩; unfold Ad.box) | (go_at_call 27; refine (rmoney_any _ _).mono ?_; rintro r w' ⟨rfl, rfl⟩) | (go_at_call 29; refine (rshare_part _ _ _ (by omega) (by omega) (by omega) (by omega)).mono ?_; rintro e w' ⟨k, rfl, k0, k1, HK, m, rfl⟩))
        have HQ := HP.out gr gr (min (0) de) k (0) HR.out (by rw [if_neg (by first | omega | (simp only; omega))]) (by simp) (by simpa using HK.out) (by rw [if_pos (by first | omega | (simp only; omega))])
        refine bodyPost_ret (v := .tuple #[(Ad.paid ⟨4, l, de, fr, co, _⟩ ⟨va, su, gr⟩).agg, .int .i64 0]) ?_ rfl ⟨rfl, by (repeat' (first | (with_reducible exact Below.refl _ _) | (with_reducible refine Below.setCell ?_ ?_ _) | (with_reducible refine below_drewN ?_ _) | (with_reducible refine Below.alloc ?_ ?_ _))) <;> (simp <;> omega)⟩
        rw [HQ]
        simp [results, Try.results10, go_sem, Ad.Adj.agg] <;> omega

set_option maxHeartbeats 1500000 in
theorem radjust_yes (l de fr co : Int) (A : Option Addr) (n c : Nat) (va su gr : Int) (w : World) (he : Hid (Ad.derr ⟨4, l, de, fr, co, true⟩ = 0)) (h0 : Hid (Ad.itemErr ⟨va, su, gr⟩ = 0)) (hav : su < va) :
    Calls Try.prog 10 #[.agg #[.int .i64 4, .int .i64 l, .int .i64 de, .int .i64 fr, .int .i64 co, .bool true], .agg #[.slice A n c, .int .i64 va, .int .i64 su, .int .i64 gr]] w
      fun r w' => r = .returned (.tuple #[(Ad.paid ⟨4, l, de, fr, co, true⟩ ⟨va, su, gr⟩).agg, .int .i64 0]) ∧ Below w.heap.size w w' := by
  have CV := decErr_c 4 l de fr co true 0 he.out
  obtain ⟨h1, h2, h3⟩ := Ad.item_ok h0.out
  have hg : 0 ≤ gr ∧ gr ≤ 1073741824 := by simpa [Ad.moneyB] using h3
  have hs : 0 ≤ su ∧ su ≤ 1073741824 := by simpa [Ad.moneyB] using h2
  have hva : 0 ≤ va ∧ va ≤ 1073741824 := by simpa [Ad.moneyB] using h1
  obtain ⟨g0, g1⟩ := hg
  obtain ⟨l0, l1, d0, d1, f0, f1, c0, c1⟩ := Ad.ranges rfl he.out
  simp only at l0 l1 d0 d1 f0 f1 c0 c1
  obtain ⟨p, ep, p0, p1⟩ := Ad.md_part gr su va g0 (by omega) hs.1 (by omega) (by omega) (by omega)
  have CM : Hid (∀ W, Calls Try.prog 28 #[.int .i64 gr, .int .i64 su, .int .i64 va, .int .i64 4] W fun e w' => e = .returned (.tuple #[.int .i64 p, .int .i64 0]) ∧ ∃ m, w' = W.drewN m) := Lib.hid fun W => by
    have := rmuldiv_any gr su va 4 W
    rw [ep] at this
    exact this
  have HP := Lib.hid (Ad.paid_of ⟨4, l, de, fr, co, true⟩ ⟨va, su, gr⟩)
  have HR : Hid (Ad.r1 ⟨4, l, de, fr, co, true⟩ ⟨va, su, gr⟩ = p) := Lib.hid (by rw [Ad.r1, Ad.aver, if_neg (by simp only [Bool.true_eq_false, false_or]; omega)]; simp only [ep]; omega)
  clear he h0 ep hs hva
  by_cases hf : fr ≤ p
  · by_cases hl : 0 ≤ l
    · skip
      go_enter Try.func10, Try.ntmps10
      go_wp2_with (first | (go_at_call 26; refine (CV.out _).mono ?_; rintro r w' ⟨rfl, rfl⟩; unfold Ad.box) | (go_at_call 27; refine (rmoney_any _ _).mono ?_; rintro r w' ⟨rfl, rfl⟩) | (go_at_call 29; refine (rshare_part _ _ _ (by omega) (by omega) (by omega) (by omega)).mono ?_; rintro e w' ⟨k, rfl, k0, k1, HK, m, rfl⟩) | (go_at_call 28; refine (CM.out _).mono ?_; rintro e w' ⟨rfl, mq, rfl⟩))
      have HQ := HP.out p 0 (min (p) de) k (max (p - min (p) de - k - l) 0) HR.out (by rw [if_pos hf]) (by simp) (by simpa using HK.out) (by rw [if_neg (by first | omega | (simp only; omega))]; first | omega | (simp only; omega))
      refine bodyPost_ret (v := .tuple #[(Ad.paid ⟨4, l, de, fr, co, _⟩ ⟨va, su, gr⟩).agg, .int .i64 0]) ?_ rfl ⟨rfl, by (repeat' (first | (with_reducible exact Below.refl _ _) | (with_reducible refine Below.setCell ?_ ?_ _) | (with_reducible refine below_drewN ?_ _) | (with_reducible refine Below.alloc ?_ ?_ _))) <;> (simp <;> omega)⟩
      rw [HQ]
      simp [results, Try.results10, go_sem, Ad.Adj.agg] <;> omega
    · skip
      go_enter Try.func10, Try.ntmps10
      go_wp2_with (first | (go_at_call 26; refine (CV.out _).mono ?_; rintro r w' ⟨rfl, rfl⟩; unfold Ad.box) | (go_at_call 27; refine (rmoney_any _ _).mono ?_; rintro r w' ⟨rfl, rfl⟩) | (go_at_call 29; refine (rshare_part _ _ _ (by omega) (by omega) (by omega) (by omega)).mono ?_; rintro e w' ⟨k, rfl, k0, k1, HK, m, rfl⟩) | (go_at_call 28; refine (CM.out _).mono ?_; rintro e w' ⟨rfl, mq, rfl⟩))
      have HQ := HP.out p 0 (min (p) de) k (0) HR.out (by rw [if_pos hf]) (by simp) (by simpa using HK.out) (by rw [if_pos (by first | omega | (simp only; omega))])
      refine bodyPost_ret (v := .tuple #[(Ad.paid ⟨4, l, de, fr, co, _⟩ ⟨va, su, gr⟩).agg, .int .i64 0]) ?_ rfl ⟨rfl, by (repeat' (first | (with_reducible exact Below.refl _ _) | (with_reducible refine Below.setCell ?_ ?_ _) | (with_reducible refine below_drewN ?_ _) | (with_reducible refine Below.alloc ?_ ?_ _))) <;> (simp <;> omega)⟩
      rw [HQ]
      simp [results, Try.results10, go_sem, Ad.Adj.agg] <;> omega
  · by_cases hl : 0 ≤ l
    · skip
      go_enter Try.func10, Try.ntmps10
      go_wp2_with (first | (go_at_call 26; refine (CV.out _).mono ?_; rintro r w' ⟨rfl, rfl⟩; unfold Ad.box) | (go_at_call 27; refine (rmoney_any _ _).mono ?_; rintro r w' ⟨rfl, rfl⟩) | (go_at_call 29; refine (rshare_part _ _ _ (by omega) (by omega) (by omega) (by omega)).mono ?_; rintro e w' ⟨k, rfl, k0, k1, HK, m, rfl⟩) | (go_at_call 28; refine (CM.out _).mono ?_; rintro e w' ⟨rfl, mq, rfl⟩))
      have HQ := HP.out p p (min (0) de) k (max (0 - min (0) de - k - l) 0) HR.out (by rw [if_neg (by first | omega | (simp only; omega))]) (by simp) (by simpa using HK.out) (by rw [if_neg (by first | omega | (simp only; omega))]; first | omega | (simp only; omega))
      refine bodyPost_ret (v := .tuple #[(Ad.paid ⟨4, l, de, fr, co, _⟩ ⟨va, su, gr⟩).agg, .int .i64 0]) ?_ rfl ⟨rfl, by (repeat' (first | (with_reducible exact Below.refl _ _) | (with_reducible refine Below.setCell ?_ ?_ _) | (with_reducible refine below_drewN ?_ _) | (with_reducible refine Below.alloc ?_ ?_ _))) <;> (simp <;> omega)⟩
      rw [HQ]
      simp [results, Try.results10, go_sem, Ad.Adj.agg] <;> omega
    · skip
      go_enter Try.func10, Try.ntmps10
      go_wp2_with (first | (go_at_call 26; refine (CV.out _).mono ?_; rintro r w' ⟨rfl, rfl⟩; unfold Ad.box) | (go_at_call 27; refine (rmoney_any _ _).mono ?_; rintro r w' ⟨rfl, rfl⟩) | (go_at_call 29; refine (rshare_part _ _ _ (by omega) (by omega) (by omega) (by omega)).mono ?_; rintro e w' ⟨k, rfl, k0, k1, HK, m, rfl⟩) | (go_at_call 28; refine (CM.out _).mono ?_; rintro e w' ⟨rfl, mq, rfl⟩))
      have HQ := HP.out p p (min (0) de) k (0) HR.out (by rw [if_neg (by first | omega | (simp only; omega))]) (by simp) (by simpa using HK.out) (by rw [if_pos (by first | omega | (simp only; omega))])
      refine bodyPost_ret (v := .tuple #[(Ad.paid ⟨4, l, de, fr, co, _⟩ ⟨va, su, gr⟩).agg, .int .i64 0]) ?_ rfl ⟨rfl, by (repeat' (first | (with_reducible exact Below.refl _ _) | (with_reducible refine Below.setCell ?_ ?_ _) | (with_reducible refine below_drewN ?_ _) | (with_reducible refine Below.alloc ?_ ?_ _))) <;> (simp <;> omega)⟩
      rw [HQ]
      simp [results, Try.results10, go_sem, Ad.Adj.agg] <;> omega

theorem radjust_any (D : Ad.Dec) (X : Ad.Itm) (A : Option Addr) (n c : Nat) (w : World) :
    Calls Try.prog 10 #[D.agg, X.agg (.slice A n c)] w fun r w' => r = .returned (.tuple #[(Ad.res D X).agg, .int .i64 (Ad.err D X)]) ∧ Below w.heap.size w w' := by
  obtain ⟨v, l, de, fr, co, av⟩ := D
  obtain ⟨va, su, gr⟩ := X
  by_cases hd : Ad.derr ⟨v, l, de, fr, co, av⟩ = 0
  · rcases (show Ad.itemErr ⟨va, su, gr⟩ = 0 ∨ Ad.itemErr ⟨va, su, gr⟩ = 1 by unfold Ad.itemErr; split <;> simp) with hi | hi
    · have he : Ad.err ⟨v, l, de, fr, co, av⟩ ⟨va, su, gr⟩ = 0 := by rw [Ad.err_of, if_pos hd, hi]
      by_cases h4 : v = 4
      · subst h4
        have e : Ad.res ⟨4, l, de, fr, co, av⟩ ⟨va, su, gr⟩ = Ad.paid ⟨4, l, de, fr, co, av⟩ ⟨va, su, gr⟩ := by rw [Ad.res, if_pos he, if_pos rfl]
        rw [e, he]
        by_cases hav : (av && decide (su < va)) = false
        · exact radjust_no l de fr co av A n c va su gr w (Lib.hid hd) (Lib.hid hi) hav
        · have h2 : av = true ∧ su < va := by simpa using hav
          obtain ⟨rfl, h3⟩ := h2
          exact radjust_yes l de fr co A n c va su gr w (Lib.hid hd) (Lib.hid hi) h3
      · have e : Ad.res ⟨v, l, de, fr, co, av⟩ ⟨va, su, gr⟩ = { Ad.zero with gross := gr, unins := gr } := by rw [Ad.res, if_pos he, if_neg h4]
        rw [e, he]
        exact radjust_un v l de fr co av A n c va su gr w (Lib.hid hd) (Lib.hid hi) (by rw [bne_iff_ne]; exact h4)
    · have he : Ad.err ⟨v, l, de, fr, co, av⟩ ⟨va, su, gr⟩ = 1 := by rw [Ad.err_of, if_pos hd, hi]
      have e : Ad.res ⟨v, l, de, fr, co, av⟩ ⟨va, su, gr⟩ = Ad.zero := by rw [Ad.res, if_neg (by omega)]
      rw [e, he]
      exact radjust_ierr v l de fr co av A n c va su gr w (Lib.hid hd) (Lib.hid hi)
  · have he : Ad.err ⟨v, l, de, fr, co, av⟩ ⟨va, su, gr⟩ = Ad.derr ⟨v, l, de, fr, co, av⟩ := by rw [Ad.err_of, if_neg hd]
    have e : Ad.res ⟨v, l, de, fr, co, av⟩ ⟨va, su, gr⟩ = Ad.zero := by rw [Ad.res, if_neg (by omega)]
    rw [e, he]
    exact radjust_derr v l de fr co av A n c va su gr _ w (Lib.hid rfl) (by rw [bne_iff_ne]; exact hd)
end Go.Proofs.Ytageedgbkaknnaa
