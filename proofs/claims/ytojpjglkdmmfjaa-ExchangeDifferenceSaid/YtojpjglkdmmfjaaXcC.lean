/- exchange.At, the reference's RateAt, exchange.Convert. -/
import Derived.Test.YtojpjglkdmmfjaaXcT
import Derived.Test.YtojpjglkdmmfjaaXcRr
import Derived.Test.YtojpjglkdmmfjaaAmP
namespace Go.Proofs.Ytojpjglkdmmfjaa
open Go.RowKit
set_option linter.unusedVariables false

theorem ret_pair {a : Int × Int} {x y : Int} (h : a = (x, y)) : Ending.returned (.tuple #[.int .i64 x, .int .i64 y]) = .returned (.tuple #[.int .i64 a.1, .int .i64 a.2]) := by rw [h]

set_option maxHeartbeats 1000000 in
theorem xat_any (A : Option Addr) (n ca : Nat) (f : Nat → T3) (c h : Int) (w : World) (hn : n ≤ 9223372036854775807) (hp : Trips w w.heap.size A n f) :
    Calls Try.prog 16 #[.slice A n ca, .int .i64 c, .int .i64 h] w (PairPost (Xc.at' n f c h) w) := by
  have CV := Lib.hid (xvalidate_any A n ca f w hn hp)
  obtain ⟨V, hV⟩ : ∃ V, Xc.verr n f = V := ⟨_, rfl⟩
  rw [hV] at CV
  rw [Xc.at', hV]
  by_cases h0 : V = 0
  · subst h0
    obtain ⟨hn2, _, _⟩ := Xc.verr_fine hV
    have HP := Lib.hid hp
    rw [if_neg (fun x => x rfl)]
    obtain ⟨⟨v, er⟩, hT⟩ : ∃ T, Xc.at1 n f c h = T := ⟨_, rfl⟩
    have HT := Lib.hid hT
    rw [hT]
    clear hp hV hT
    go_enter Try.func16, Try.ntmps16
    go_wp2_with fail
    refine CV.out.mono ?_
    rintro e w1 ⟨rfl, hb⟩
    have HB := Lib.hid hb
    clear hb CV
    go_wp2_with fail
    refine (at1_any A n ca f c h w1 (by omega) ((HP.out.below HB.out).mono HB.out.size)).mono ?_
    rw [HT.out]
    rintro e w2 ⟨rfl, hb⟩
    replace HB : Hid (Below w.heap.size w w2) := Lib.hid (HB.out.trans (hb.mono HB.out.size))
    clear hb
    go_wp2_with fail
    go_ret2
    exact ⟨rfl, HB.out⟩
  · rw [if_pos h0]
    have hne : (V != 0) = true := by rw [bne_iff_ne]; exact h0
    clear hp hV h0
    go_enter Try.func16, Try.ntmps16
    go_wp2_with fail
    refine CV.out.mono ?_
    rintro e w1 ⟨rfl, hb⟩
    have HB := Lib.hid hb
    clear hb CV
    go_wp2_with fail
    go_ret2
    exact ⟨rfl, HB.out⟩

set_option maxRecDepth 100000 in
set_option maxHeartbeats 2000000 in
theorem rrateat_any (A : Option Addr) (n ca : Nat) (f : Nat → T3) (c h : Int) (w : World) (hn : n ≤ 9223372036854775807) (hp : Trips w w.heap.size A n f) :
    Calls Try.prog 17 #[.slice A n ca, .int .i64 c, .int .i64 h] w (PairPost (Xc.at' n f c h) w) := by
  have CV := Lib.hid (rrates_any A n ca f w hn hp)
  obtain ⟨V, hV⟩ : ∃ V, Xc.verr n f = V := ⟨_, rfl⟩
  rw [hV] at CV
  rw [Xc.at', hV]
  by_cases h0 : V = 0
  · subst h0
    obtain ⟨hn2, hf1, _⟩ := Xc.verr_fine hV
    have HP := Lib.hid hp
    have HF := Lib.hid hf1
    rw [if_neg (fun x => x rfl)]
    clear hp hV hf1
    by_cases hh : Xc.hourP h
    · have HH := Lib.hid hh
      rw [Xc.at1, if_neg (fun x => x hh)]
      by_cases hc : Xc.curP c
      · have HC := Lib.hid hc
        by_cases hz : c = 0
        · subst hz
          rw [if_pos rfl]
          clear hh hc
          go_enter Try.func17, Try.ntmps17
          go_wp2_with fail
          refine CV.out.mono ?_
          rintro e w1 ⟨rfl, hb⟩
          have HB := Lib.hid hb
          clear hb CV
          go_wp2_with fail
          refine (rh_yes HH.out _).mono ?_
          rintro e w' ⟨rfl, rfl⟩
          go_wp2_with fail
          refine (rcu_yes HC.out _).mono ?_
          rintro e w' ⟨rfl, rfl⟩
          go_wp2_with fail
          go_ret2
          exact ⟨rfl, HB.out⟩
        · rw [if_neg hz]
          have hz' : (c == 0) = false := by rw [beq_eq_false_iff_ne]; exact hz
          obtain ⟨⟨v, er⟩, hT⟩ : ∃ T, Xc.st f c h n = T := ⟨_, rfl⟩
          have HT := Lib.hid hT
          rw [hT]
          clear hh hc hT hz
          go_enter Try.func17, Try.ntmps17
          go_wp2_with fail
          refine CV.out.mono ?_
          rintro e w1 ⟨rfl, hb⟩
          have HB := Lib.hid hb
          clear hb CV
          go_wp2_with fail
          refine (rh_yes HH.out _).mono ?_
          rintro e w' ⟨rfl, rfl⟩
          go_wp2_with fail
          refine (rcu_yes HC.out _).mono ?_
          rintro e w' ⟨rfl, rfl⟩
          go_wp2_with fail
          go_loop [9, 10] (fun v i => ∃ k : Nat, k ≤ n ∧ i = .int .i64 k ∧ v = .int .i64 (Xc.st f c h k).1) (fun _ i => n - (intOf i).toNat)
          case atStart => exact ⟨0, Nat.zero_le _, rfl, rfl⟩
          case round =>
            obtain ⟨k, hk, rfl, rfl⟩ := hrel
            by_cases hlt : k < n
            · obtain ⟨b, o, rfl, had, hc0, hc1, hc2⟩ := ((HP.out.below HB.out).mono HB.out.size).get hlt
              have hk0 : (0 : Int) ≤ k := by omega
              have hk1 : (k : Int) < n := by omega
              have hc2' : w1.cell? ⟨b, o + k * 3 + 2, none⟩ = some (.int .i64 (f k).c) := hc2
              have hst : Xc.st f c h (k + 1) = if (f k).a = c ∧ (f k).b ≤ h then ((f k).c, 0) else Xc.st f c h k := rfl
              obtain ⟨⟨x, y, z⟩, hx⟩ : ∃ x, f k = x := ⟨_, rfl⟩
              rw [hx] at hc0 hc1 hc2 hc2' hst
              simp only at hc0 hc1 hc2 hc2' hst
              obtain ⟨s, hs⟩ : ∃ s, (Xc.st f c h k).1 = s := ⟨_, rfl⟩
              rw [hs]
              by_cases m1 : x = c
              · have t1 : (x == c) = true := by rw [beq_iff_eq]; exact m1
                by_cases m2 : y ≤ h
                · have t2 : decide (y ≤ h) = true := decide_eq_true m2
                  have HG : Hid ((Xc.st f c h (k + 1)).1 = z) := Lib.hid (by rw [hst, if_pos ⟨m1, m2⟩])
                  clear hst hs hx m1
                  go_wp2_with fail
                  go_round
                  case rel => exact ⟨k + 1, by omega, by go_num, by rw [HG.out]⟩
                  case measure => simp [intOf]; omega
                · have t2 : decide (y ≤ h) = false := decide_eq_false m2
                  have HG : Hid ((Xc.st f c h (k + 1)).1 = s) := Lib.hid (by rw [hst, if_neg (fun q => m2 q.2)]; exact hs)
                  clear hst hs hx m1
                  go_wp2_with fail
                  go_round
                  case rel => exact ⟨k + 1, by omega, by go_num, by rw [HG.out]⟩
                  case measure => simp [intOf]; omega
              · have t1 : (x == c) = false := by rw [beq_eq_false_iff_ne]; exact m1
                have HG : Hid ((Xc.st f c h (k + 1)).1 = s) := Lib.hid (by rw [hst, if_neg (fun q => m1 q.1)]; exact hs)
                clear hst hs hx m1
                go_wp2_with fail
                go_round
                case rel => exact ⟨k + 1, by omega, by go_num, by rw [HG.out]⟩
                case measure => simp [intOf]; omega
            · obtain rfl : k = n := by omega
              have hfn := Xc.st_fine (f := f) (c := c) (h := h) k (fun i hi => (HF.out i hi).2)
              have hcd := Xc.st_code f c h k
              rw [HT.out] at hfn hcd ⊢
              simp only at hfn hcd ⊢
              by_cases e0 : er = 0
              · subst e0
                have := hfn rfl
                have t1 : (v == 0) = false := by rw [beq_eq_false_iff_ne]; omega
                clear hfn hcd
                go_wp2_with fail
                go_ret2
                exact ⟨rfl, HB.out⟩
              · rcases hcd with e | e
                · exact absurd e e0
                · injection e with e1 e2
                  subst e1 e2
                  clear hfn
                  go_wp2_with fail
                  go_ret2
                  exact ⟨rfl, HB.out⟩
      · have HC := Lib.hid hc
        have hz : ¬ c = 0 := fun e => hc (by rw [e]; exact ⟨by omega, by omega⟩)
        rw [if_neg hz, Xc.st_none n (fun i hi => (HF.out i hi).1) hc]
        clear hh hc hz
        go_enter Try.func17, Try.ntmps17
        go_wp2_with fail
        refine CV.out.mono ?_
        rintro e w1 ⟨rfl, hb⟩
        have HB := Lib.hid hb
        clear hb CV
        go_wp2_with fail
        refine (rh_yes HH.out _).mono ?_
        rintro e w' ⟨rfl, rfl⟩
        go_wp2_with fail
        refine (rcu_no HC.out _).mono ?_
        rintro e w' ⟨rfl, rfl⟩
        go_wp2_with fail
        go_ret2
        exact ⟨rfl, HB.out⟩
    · have HH := Lib.hid hh
      rw [Xc.at1, if_pos hh]
      clear hh
      go_enter Try.func17, Try.ntmps17
      go_wp2_with fail
      refine CV.out.mono ?_
      rintro e w1 ⟨rfl, hb⟩
      have HB := Lib.hid hb
      clear hb CV
      go_wp2_with fail
      refine (rh_no HH.out _).mono ?_
      rintro e w' ⟨rfl, rfl⟩
      go_wp2_with fail
      go_ret2
      exact ⟨rfl, HB.out⟩
  · rw [if_pos h0]
    have hne : (V != 0) = true := by rw [bne_iff_ne]; exact h0
    clear hp hV h0
    go_enter Try.func17, Try.ntmps17
    go_wp2_with fail
    refine CV.out.mono ?_
    rintro e w1 ⟨rfl, hb⟩
    have HB := Lib.hid hb
    clear hb CV
    go_wp2_with fail
    go_ret2
    exact ⟨rfl, HB.out⟩


set_option maxRecDepth 100000 in
set_option maxHeartbeats 2000000 in
theorem convert_fine (A : Option Addr) (n ca : Nat) (f : Nat → T3) (cur amt to' h p q : Int) (w : World) (hlen : n ≤ 1000) (hp : Trips w w.heap.size A n f) (ha : Am.validB amt = true) (hh : Xc.hourP h) (hc : Xc.curP cur) (ht : Xc.curP to') (hne : cur ≠ to')
    (h1 : Xc.at1 n f cur h = (p, 0)) (h2 : Xc.at1 n f to' h = (q, 0)) :
    Calls Try.prog 31 #[.slice A n ca, .agg #[.int .i64 cur, .int .i64 amt], .int .i64 to', .int .i64 h] w (PairPost (Am.md amt p q 4) w) := by
  have CV := Lib.hid (valid_any amt)
  rw [ha] at CV
  have HH := Lib.hid hh
  have HC := Lib.hid hc
  have HT := Lib.hid ht
  have t1 : (cur == to') = false := by rw [beq_eq_false_iff_ne]; exact hne
  have C1 : Hid (∀ W : World, Below w.heap.size w W → Calls Try.prog 32 #[.slice A n ca, .int .i64 cur, .int .i64 h] W (PairPost (p, 0) W)) := Lib.hid fun W hb => by
    have := at1_any A n ca f cur h W hlen ((hp.below hb).mono hb.size)
    rwa [h1] at this
  have C2 : Hid (∀ W : World, Below w.heap.size w W → Calls Try.prog 32 #[.slice A n ca, .int .i64 to', .int .i64 h] W (PairPost (q, 0) W)) := Lib.hid fun W hb => by
    have := at1_any A n ca f to' h W hlen ((hp.below hb).mono hb.size)
    rwa [h2] at this
  have CM := Lib.hid (muldiv_any amt p q 4)
  obtain ⟨⟨v, er⟩, hM⟩ : ∃ M, Am.md amt p q 4 = M := ⟨_, rfl⟩
  rw [hM] at CM ⊢
  clear hp ha hh hc ht hne h1 h2 hM
  have HB : Hid (Below w.heap.size w (w.alloc (.cells #[.int .i64 cur, .int .i64 amt] 37))) := Lib.hid (by (repeat' (first | (with_reducible exact Below.refl _ _) | (with_reducible refine Below.setCell ?_ ?_ _) | (with_reducible refine below_drewN ?_ _) | (with_reducible refine Below.drew ?_) | (with_reducible refine Below.alloc ?_ ?_ _))) <;> (first | omega | (simp <;> omega)))
  have HX := Lib.hid (Has.new w #[.int .i64 cur, .int .i64 amt] 37)
  obtain ⟨W0, hW0⟩ : ∃ W, w.alloc (.cells #[.int .i64 cur, .int .i64 amt] 37) = W := ⟨_, rfl⟩
  rw [hW0] at HB HX
  obtain ⟨a0, a1, a2⟩ := HX.out.rules
  go_enter Try.func31, Try.ntmps31
  go_wp2_with fail
  refine (CV.out _).mono ?_
  rintro e w' ⟨rfl, rfl⟩
  clear hW0
  go_wp2_with fail
  refine (hv_yes HH.out _).mono ?_
  rintro e w' ⟨rfl, rfl⟩
  go_wp2_with fail
  refine (cv_yes HC.out _).mono ?_
  rintro e w' ⟨rfl, rfl⟩
  go_wp2_with fail
  refine (cv_yes HT.out _).mono ?_
  rintro e w' ⟨rfl, rfl⟩
  go_wp2_with fail
  refine (C1.out _ HB.out).mono ?_
  rintro e w1 ⟨rfl, hb⟩
  replace HX := Lib.hid (HX.out.below hb HX.out.lt)
  replace HB : Hid (Below w.heap.size w w1) := Lib.hid (HB.out.trans (hb.mono HB.out.size))
  clear hb a0 a1 a2
  go_wp2_with fail
  refine (C2.out _ HB.out).mono ?_
  rintro e w2 ⟨rfl, hb⟩
  replace HX := Lib.hid (HX.out.below hb HX.out.lt)
  replace HB : Hid (Below w.heap.size w w2) := Lib.hid (HB.out.trans (hb.mono HB.out.size))
  clear hb C1 C2
  obtain ⟨a0, a1, a2⟩ := HX.out.rules
  go_wp2_with fail
  refine (CM.out _).mono ?_
  rintro e w3 ⟨rfl, n3, rfl⟩
  go_wp2_with fail
  go_ret2
  exact ⟨rfl, below_drewN HB.out _⟩

set_option maxRecDepth 100000 in
set_option maxHeartbeats 2000000 in
theorem xconvert_fine (A : Option Addr) (n ca : Nat) (f : Nat → T3) (cur amt to' h p q : Int) (w : World) (hn : n ≤ 9223372036854775807) (hp : Trips w w.heap.size A n f) (hv : Xc.verr n f = 0) (ha : Am.validB amt = true) (hh : Xc.hourP h) (hc : Xc.curP cur) (ht : Xc.curP to') (hne : cur ≠ to')
    (h1 : Xc.at1 n f cur h = (p, 0)) (h2 : Xc.at1 n f to' h = (q, 0)) :
    Calls Try.prog 15 #[.slice A n ca, .agg #[.int .i64 cur, .int .i64 amt], .int .i64 to', .int .i64 h] w (PairPost (Am.md amt p q 4) w) := by
  have CV : Hid (∀ W : World, Below w.heap.size w W → Calls Try.prog 12 #[.slice A n ca] W (IntPost 0 W)) := Lib.hid fun W hb => by
    have := xvalidate_any A n ca f W hn ((hp.below hb).mono hb.size)
    rwa [hv] at this
  have CC : Hid (∀ W : World, Below w.heap.size w W → Calls Try.prog 31 #[.slice A n ca, .agg #[.int .i64 cur, .int .i64 amt], .int .i64 to', .int .i64 h] W (PairPost (Am.md amt p q 4) W)) := Lib.hid fun W hb =>
    convert_fine A n ca f cur amt to' h p q W (by have := (Xc.verr_fine hv).1; omega) ((hp.below hb).mono hb.size) ha hh hc ht hne h1 h2
  obtain ⟨⟨v, er⟩, hM⟩ : ∃ M, Am.md amt p q 4 = M := ⟨_, rfl⟩
  rw [hM] at CC ⊢
  clear hp ha hh hc ht hne h1 h2 hM hv
  have HB : Hid (Below w.heap.size w (w.alloc (.cells #[.int .i64 cur, .int .i64 amt] 37))) := Lib.hid (by (repeat' (first | (with_reducible exact Below.refl _ _) | (with_reducible refine Below.setCell ?_ ?_ _) | (with_reducible refine below_drewN ?_ _) | (with_reducible refine Below.drew ?_) | (with_reducible refine Below.alloc ?_ ?_ _))) <;> (first | omega | (simp <;> omega)))
  have HX := Lib.hid (Has.new w #[.int .i64 cur, .int .i64 amt] 37)
  go_enter Try.func15, Try.ntmps15
  go_wp2_with fail
  refine (CV.out _ HB.out).mono ?_
  rintro e w1 ⟨rfl, hb⟩
  replace HX := Lib.hid (HX.out.below hb HX.out.lt)
  replace HB : Hid (Below w.heap.size w w1) := Lib.hid (HB.out.trans (hb.mono HB.out.size))
  obtain ⟨a0, a1, a2⟩ := HX.out.rules
  clear hb CV
  go_wp2_with fail
  refine (CC.out _ HB.out).mono ?_
  rintro e w2 ⟨rfl, hb⟩
  replace HB : Hid (Below w.heap.size w w2) := Lib.hid (HB.out.trans (hb.mono HB.out.size))
  clear hb CC
  go_wp2_with fail
  go_ret2
  exact ⟨rfl, HB.out⟩
end Go.Proofs.Ytojpjglkdmmfjaa
