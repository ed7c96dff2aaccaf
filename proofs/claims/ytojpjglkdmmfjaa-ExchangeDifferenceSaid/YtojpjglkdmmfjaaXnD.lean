/- exchange.Add and exchange.Sub; the reference's Joined. -/
import Derived.Test.YtojpjglkdmmfjaaXnC
namespace Go.Proofs.Ytojpjglkdmmfjaa
open Go.RowKit
set_option linter.unusedVariables false

theorem NormPost.from {er : Int} {l : List (Int × Int)} {w w1 w' : World} {e : Ending} (h : NormPost er l w1 e w') (hb : Below w.heap.size w w1) : NormPost er l w e w' := by
  obtain ⟨A, m, cap, rfl, h1, h2, ⟨h3, h4⟩, h5⟩ := h
  have := hb.size
  refine ⟨A, m, cap, rfl, hb.trans (h1.mono this), h2, ⟨fun hA => ?_, h4⟩, h5⟩
  obtain ⟨g, e, hg⟩ := h3 hA
  exact ⟨g, e, by omega⟩
theorem NormPost.other {er : Int} {l l' : List (Int × Int)} {w w' : World} {e : Ending} (h : NormPost er l w e w') (hl : er = 0 → l = l') : NormPost er l' w e w' := by
  obtain ⟨A, m, cap, rfl, h1, h2, h3, h5⟩ := h
  by_cases he : er = 0
  · rw [← hl he]; exact ⟨A, m, cap, rfl, h1, h2, h3, h5⟩
  · rw [if_neg he] at h2
    exact ⟨A, m, cap, rfl, h1, by rw [if_neg he]; exact h2, h3, fun h0 => absurd h0 he⟩
theorem own_slice {w : World} {base : Nat} {e : TypeId} {n : Nat} {v : Value} {xs : List Value} (h : w.ownsRow base e 2 v n xs) : ∃ A c, v = .slice A n c := by
  rcases h.2 with ⟨hv, h0⟩ | ⟨g, cap, cur, hv, _⟩
  · exact ⟨none, 0, by rw [hv, h0]⟩
  · exact ⟨_, cap, hv⟩

set_option maxRecDepth 100000 in
set_option maxHeartbeats 2000000 in
theorem add_any (A1 A2 : Option Addr) (n1 c1 n2 c2 : Nat) (f1 g1 f2 g2 : Nat → Int) (w : World) (hn1 : n1 ≤ 200) (hn2 : n2 ≤ 200) (hl1 : A1 = none → n1 = 0 ∧ c1 = 0) (hl2 : A2 = none → n2 = 0 ∧ c2 = 0)
    (hp1 : Pairs w w.heap.size A1 n1 f1 g1) (hp2 : Pairs w w.heap.size A2 n2 f2 g2) :
    Calls Try.prog 24 #[.slice A1 n1 c1, .slice A2 n2 c2] w (NormPost (Xn.nerr (app f1 f2 n1) (app g1 g2 n1) (n1 + n2)) (Xn.bal (app f1 f2 n1) (app g1 g2 n1) (n1 + n2)) w) := by
  obtain ⟨ER, hER⟩ : ∃ x, Xn.nerr (app f1 f2 n1) (app g1 g2 n1) (n1 + n2) = x := ⟨_, rfl⟩
  obtain ⟨BL, hBL⟩ : ∃ x, Xn.bal (app f1 f2 n1) (app g1 g2 n1) (n1 + n2) = x := ⟨_, rfl⟩
  rw [hER, hBL]
  have hbw : Below w.heap.size w (w.alloc (.cells #[.slice A1 n1 c1, .slice A2 n2 c2] 42)) := (Below.refl _ w).alloc (Nat.le_refl _) _
  have CC : Hid (Calls Try.prog 40 #[.slice (some ⟨w.heap.size, 0, none⟩) 2 2] (w.alloc (.cells #[.slice A1 n1 c1, .slice A2 n2 c2] 42)) (CatPost (n1 + n2) (pairL (n1 + n2) (app f1 f2 n1) (app g1 g2 n1)) (w.alloc (.cells #[.slice A1 n1 c1, .slice A2 n2 c2] 42)))) := Lib.hid (by
    rw [← pairL_app]
    exact concat_any _ A1 A2 n1 c1 n2 c2 f1 g1 f2 g2 _ (Has.new w _ _) hn1 hn2 hl1 hl2 ((hp1.below hbw).mono (by simp)) ((hp2.below hbw).mono (by simp)))
  have HBW := Lib.hid hbw
  have NN : Hid (∀ (W : World) (A : Option Addr) (c : Nat), Pairs W W.heap.size A (n1 + n2) (app f1 f2 n1) (app g1 g2 n1) → Calls Try.prog 19 #[.slice A (n1 + n2) c] W (NormPost ER BL W)) := Lib.hid fun W A c hp => by
    have := norm_any A (n1 + n2) c _ _ W (by omega) hp
    rwa [hER, hBL] at this
  have ha0 : (n1 : Int) ≤ 200 := by omega
  have ha1 : (n2 : Int) ≤ 200 := by omega
  clear hER hBL hp1 hp2 hl1 hl2 hbw
  go_enter Try.func24, Try.ntmps24
  go_wp2_with fail
  refine CC.out.mono ?_
  intro e w1 hC
  obtain ⟨v, rfl, ho, hb⟩ := hC
  obtain ⟨A, c, rfl⟩ := own_slice ho
  have HP := Lib.hid (Pairs.of_list ho)
  have HB : Hid (Below w.heap.size w w1) := Lib.hid (HBW.out.trans (hb.mono (by simp)))
  clear ho hb CC HBW
  go_wp2_with fail
  refine (NN.out _ _ _ HP.out).mono ?_
  intro e w2 hN
  have HN := Lib.hid (hN.from HB.out)
  obtain ⟨X, m, cap, rfl, hrest⟩ := hN
  clear HP NN hrest
  go_wp2_with fail
  go_ret2
  exact HN.out

/-- the cells with one amount set anew -/
theorem pairL_set (n : Nat) (f g : Nat → Int) (k : Nat) (z : Int) : (pairL n f g).set (k * 2 + 1) (.int .i64 z) = pairL n f fun i => if i = k then z else g i := by
  apply List.ext_getElem
  · simp [pairL]
  · intro j h1 h2
    simp only [pairL, List.length_map, List.length_range] at h2
    rw [List.getElem_set]
    simp only [pairL, List.getElem_map, List.getElem_range]
    unfold pairAt
    by_cases e : k * 2 + 1 = j
    · subst e
      rw [if_pos rfl, if_neg (by omega)]
      simp only [if_pos (show (k * 2 + 1) / 2 = k by omega)]
    · rw [if_neg e]
      by_cases hp : j % 2 = 0
      · rw [if_pos hp, if_pos hp]
      · rw [if_neg hp, if_neg hp]
        simp only [if_neg (show ¬ j / 2 = k by omega)]
theorem pairL_congr {n : Nat} {f g f' g' : Nat → Int} (h : ∀ j, j < n → f j = f' j ∧ g j = g' j) : pairL n f g = pairL n f' g' := by
  apply List.map_congr_left
  intro j hj
  have := List.mem_range.1 hj
  obtain ⟨h1, h2⟩ := h (j / 2) (by omega)
  unfold pairAt
  rw [h1, h2]
/-- Go's negation -/
def wneg (x : Int) : Int := if x = -9223372036854775808 then x else -x
/-- a valid amount times the sign, another as it is -/
def sgn (s : Int) (g : Nat → Int) (j : Nat) : Int := if Am.validB (g j) = true then s * g j else g j
theorem wneg_valid (x : Int) : Am.validB (wneg x) = Am.validB x := by
  unfold wneg
  by_cases h : x = -9223372036854775808
  · rw [if_pos h]
  · rw [if_neg h]
    unfold Am.validB
    rw [Bool.eq_iff_iff]
    simp only [Bool.and_eq_true, decide_eq_true_eq]
    omega
theorem wneg_of_valid {x : Int} (h : Am.validB x = true) : wneg x = -x := by
  have := (Am.validB_iff x).1 h
  unfold wneg
  rw [if_neg (by omega)]
theorem Xn.alike {f g g' : Nat → Int} {n : Nat} (h : ∀ i, i < n → Am.validB (g i) = Am.validB (g' i) ∧ (Am.validB (g i) = true → g i = g' i)) : Xn.nerr f g n = Xn.nerr f g' n ∧ (Xn.nerr f g n = 0 → Xn.bal f g n = Xn.bal f g' n) := by
  have hs : scan (Xn.cc f g) n 0 = scan (Xn.cc f g') n 0 := scan_congr _ _ _ _ fun i _ hi => by
    unfold Xn.cc
    rw [(h i (by omega)).1]
  have ht : scan (Xn.cc f g) n 0 = 0 → ∀ c, Xn.tot f g c n = Xn.tot f g' c n := fun h0 c => by
    have hf := Xn.cc_fine h0
    have : ∀ k, k ≤ n → Xn.tot f g c k = Xn.tot f g' c k := fun k => by
      induction k with
      | zero => intro _; rfl
      | succ k ih => intro hk; rw [Xn.tot, Xn.tot, ih (by omega), (h k (by omega)).2 (hf k (by omega)).2]
    exact this n (Nat.le_refl _)
  constructor
  · unfold Xn.nerr
    rw [← hs]
    by_cases h0 : scan (Xn.cc f g) n 0 = 0
    · have hb : Xn.badB f g n (Xn.cus 16) = Xn.badB f g' n (Xn.cus 16) := by
        unfold Xn.badB
        congr 1
        funext c
        rw [ht h0 c]
      rw [hb]
    · rw [if_pos h0, if_pos h0]
  · intro he
    have h0 : scan (Xn.cc f g) n 0 = 0 := by
      unfold Xn.nerr at he
      by_cases h0 : scan (Xn.cc f g) n 0 = 0
      · exact h0
      · rw [if_pos h0] at he
        split at he
        · omega
        · exact he
    unfold Xn.bal Xn.bals
    congr 1
    funext c
    rw [ht h0 c]
/-- the amounts from n1 to k negated -/
def negs (g : Nat → Int) (n1 k : Nat) (i : Nat) : Int := if n1 ≤ i ∧ i < k then wneg (g i) else g i
theorem negs_succ (g : Nat → Int) (n1 k : Nat) (h : n1 ≤ k) : (fun i => if i = k then wneg (g k) else negs g n1 k i) = negs g n1 (k + 1) := by
  funext i
  unfold negs
  by_cases e : i = k
  · subst e; rw [if_pos rfl, if_pos ⟨h, by omega⟩]
  · rw [if_neg e]
    by_cases e2 : n1 ≤ i ∧ i < k
    · rw [if_pos e2, if_pos ⟨e2.1, by omega⟩]
    · rw [if_neg e2, if_neg (by omega)]
theorem negs_self (g : Nat → Int) (n1 k : Nat) (h : n1 ≤ k) : negs g n1 k k = g k := by unfold negs; rw [if_neg (by omega)]
theorem negs_zero (g : Nat → Int) (n1 : Nat) : negs g n1 n1 = g := by funext i; unfold negs; rw [if_neg (by omega)]
theorem negs_like (g1 g2 : Nat → Int) (n1 n2 i : Nat) (hi : i < n1 + n2) : Am.validB (negs (app g1 g2 n1) n1 (n1 + n2) i) = Am.validB (app g1 (sgn (-1) g2) n1 i) ∧ (Am.validB (negs (app g1 g2 n1) n1 (n1 + n2) i) = true → negs (app g1 g2 n1) n1 (n1 + n2) i = app g1 (sgn (-1) g2) n1 i) := by
  unfold negs
  by_cases h : i < n1
  · rw [if_neg (by omega)]
    unfold app
    rw [if_pos h, if_pos h]
    exact ⟨rfl, fun _ => rfl⟩
  · rw [if_pos ⟨by omega, hi⟩, wneg_valid]
    unfold app
    rw [if_neg h, if_neg h]
    unfold sgn
    cases hv : Am.validB (g2 (i - n1)) with
    | true =>
      rw [if_pos rfl, wneg_of_valid hv]
      have h1 := (Am.validB_iff _).1 hv
      exact ⟨((Am.validB_iff _).2 ⟨by omega, by omega⟩).symm, fun _ => by omega⟩
    | false =>
      rw [if_neg (by simp)]
      exact ⟨hv.symm, fun h => by cases h⟩

set_option maxRecDepth 100000 in
set_option maxHeartbeats 2000000 in
theorem sub_any (A1 A2 : Option Addr) (n1 c1 n2 c2 : Nat) (f1 g1 f2 g2 : Nat → Int) (w : World) (hn1 : n1 ≤ 200) (hn2 : n2 ≤ 200) (hl1 : A1 = none → n1 = 0 ∧ c1 = 0) (hl2 : A2 = none → n2 = 0 ∧ c2 = 0)
    (hp1 : Pairs w w.heap.size A1 n1 f1 g1) (hp2 : Pairs w w.heap.size A2 n2 f2 g2) (hg2 : ∀ j, j < n2 → -9223372036854775808 ≤ g2 j ∧ g2 j ≤ 9223372036854775807) :
    Calls Try.prog 26 #[.slice A1 n1 c1, .slice A2 n2 c2] w (NormPost (Xn.nerr (app f1 f2 n1) (app g1 (sgn (-1) g2) n1) (n1 + n2)) (Xn.bal (app f1 f2 n1) (app g1 (sgn (-1) g2) n1) (n1 + n2)) w) := by
  have hAL := Xn.alike (f := app f1 f2 n1) (g := negs (app g1 g2 n1) n1 (n1 + n2)) (g' := app g1 (sgn (-1) g2) n1) (n := n1 + n2) fun i hi => negs_like g1 g2 n1 n2 i hi
  obtain ⟨ER, hER⟩ : ∃ x, Xn.nerr (app f1 f2 n1) (app g1 (sgn (-1) g2) n1) (n1 + n2) = x := ⟨_, rfl⟩
  obtain ⟨BL, hBL⟩ : ∃ x, Xn.bal (app f1 f2 n1) (app g1 (sgn (-1) g2) n1) (n1 + n2) = x := ⟨_, rfl⟩
  rw [hER, hBL] at hAL ⊢
  have hbw : Below w.heap.size w (w.alloc (.cells #[.slice A1 n1 c1, .slice A2 n2 c2] 42)) := (Below.refl _ w).alloc (Nat.le_refl _) _
  have CC : Hid (Calls Try.prog 40 #[.slice (some ⟨w.heap.size, 0, none⟩) 2 2] (w.alloc (.cells #[.slice A1 n1 c1, .slice A2 n2 c2] 42)) (CatPost (n1 + n2) (pairL (n1 + n2) (app f1 f2 n1) (app g1 g2 n1)) (w.alloc (.cells #[.slice A1 n1 c1, .slice A2 n2 c2] 42)))) := Lib.hid (by
    rw [← pairL_app]
    exact concat_any _ A1 A2 n1 c1 n2 c2 f1 g1 f2 g2 _ (Has.new w _ _) hn1 hn2 hl1 hl2 ((hp1.below hbw).mono (by simp)) ((hp2.below hbw).mono (by simp)))
  have HBW := Lib.hid hbw
  have HG : Hid (∀ j, n1 ≤ j → j < n1 + n2 → -9223372036854775808 ≤ app g1 g2 n1 j ∧ app g1 g2 n1 j ≤ 9223372036854775807) := Lib.hid fun j h1 h2 => by
    unfold app
    rw [if_neg (by omega)]
    exact hg2 _ (by omega)
  obtain ⟨FF, hFF⟩ : ∃ x, app f1 f2 n1 = x := ⟨_, rfl⟩
  obtain ⟨GG, hGG⟩ : ∃ x, app g1 g2 n1 = x := ⟨_, rfl⟩
  rw [hFF, hGG] at CC
  rw [hFF, hGG] at hAL
  rw [hGG] at HG
  have NN : Hid (∀ (W : World) (A : Option Addr) (c : Nat), Pairs W W.heap.size A (n1 + n2) FF (negs GG n1 (n1 + n2)) → Calls Try.prog 19 #[.slice A (n1 + n2) c] W (NormPost ER BL W)) := Lib.hid fun W A c hp => by
    have := norm_any A (n1 + n2) c _ _ W (by omega) hp
    rw [hAL.1] at this
    exact this.mono fun e w' h => h.other fun h0 => hAL.2 (hAL.1.trans h0)
  have ha0 : (n1 : Int) ≤ 200 := by omega
  have ha1 : (n2 : Int) ≤ 200 := by omega
  clear hER hBL hp1 hp2 hl1 hl2 hbw hAL hFF hGG hg2
  go_enter Try.func26, Try.ntmps26
  go_wp2_with fail
  refine CC.out.mono ?_
  intro e w1 hC
  obtain ⟨v, rfl, ho, hb⟩ := hC
  have HO : Hid (w1.ownsRow w.heap.size 37 2 v (n1 + n2) (pairL (n1 + n2) FF (negs GG n1 n1))) := Lib.hid (by rw [negs_zero]; exact own_base ho (by simp))
  obtain ⟨A, c, rfl⟩ := own_slice ho
  have HB : Hid (Below w.heap.size w w1) := Lib.hid (HBW.out.trans (hb.mono (by simp)))
  clear ho hb CC HBW
  go_wp2_with fail
  go_loopw [7] (fun i wr => ∃ k : Nat, n1 ≤ k ∧ k ≤ n1 + n2 ∧ i = .int .i64 k ∧ Hid (wr.ownsRow w.heap.size 37 2 (.slice A (n1 + n2) c) (n1 + n2) (pairL (n1 + n2) FF (negs GG n1 k))) ∧ Hid (Below w.heap.size w wr)) (fun i _ => n1 + n2 - (intOf i).toNat)
  case atStart => exact ⟨n1, by omega, by omega, rfl, HO, HB⟩
  case round =>
    clear HO HB
    obtain ⟨k, hk0, hk1, rfl, HO, HB⟩ := hrel
    by_cases hlt : k < n1 + n2
    · have hi0 : (0 : Int) ≤ k := by omega
      have hi1 : (k : Int) < n1 + n2 := by omega
      rcases HO.out.2 with ⟨h, h0⟩ | ⟨gb, cap, cur, hv, hg, _⟩
      · omega
      · injection hv with hv _ _
        subst hv
        have hc1 := HO.out.cellAt (k * 2 + 1) (by omega)
        have hf1 := HO.out.frozenAt (k * 2 + 1)
        have hst := (HO.out.stored (k * 2 + 1) (.int .i64 (wneg (GG k)))).1
        rw [pairL_set, negs_succ GG n1 k hk0] at hst
        have hgb := HG.out k hk0 hlt
        have hcv : (pairL (n1 + n2) FF (negs GG n1 k))[k * 2 + 1]? = some (.int .i64 (GG k)) := by
          have e1 : ¬ (k * 2 + 1) % 2 = 0 := by omega
          have e2 : (k * 2 + 1) / 2 = k := by omega
          simp only [pairL, List.getElem?_map, List.getElem?_range (show k * 2 + 1 < (n1 + n2) * 2 by omega), Option.map_some]
          unfold pairAt
          rw [if_neg e1, e2, negs_self GG n1 k hk0]
        rw [hcv] at hc1
        have HST := Lib.hid hst
        obtain ⟨y, hy⟩ : ∃ y, GG k = y := ⟨_, rfl⟩
        rw [hy] at hc1 hgb HST
        have HB2 := Lib.hid (HB.out.setCell (p := ⟨gb, k * 2 + 1, none⟩) hg (.int .i64 (wneg y)))
        obtain ⟨y0, y1⟩ := hgb
        clear hst hcv hy
        by_cases hm : y = -9223372036854775808
        · have e3 : wneg y = -9223372036854775808 := by unfold wneg; rw [if_pos hm, hm]
          rw [e3] at HST HB2
          subst hm
          have HW : Hid (wrap64 9223372036854775808 = -9223372036854775808) := Lib.hid (by unfold wrap64; decide)
          clear e3
          go_wp2_with fail
          go_roundw
          case rel => exact ⟨k + 1, by omega, by omega, by go_num, by rw [HW.out]; exact HST, by rw [HW.out]; exact HB2⟩
          case measure => simp [intOf]; omega
        · have e3 : wneg y = -y := by unfold wneg; rw [if_neg hm]
          rw [e3] at HST HB2
          have y2 : -9223372036854775807 ≤ y := by omega
          clear e3
          go_wp2_with fail
          go_roundw
          case rel => exact ⟨k + 1, by omega, by omega, by go_num, HST, HB2⟩
          case measure => simp [intOf]; omega
    · obtain rfl : k = n1 + n2 := by omega
      have HP := Lib.hid (Pairs.of_list HO.out)
      clear HO
      go_wp2_with fail
      refine (NN.out _ _ _ HP.out).mono ?_
      intro e w2 hN
      have HN := Lib.hid (hN.from HB.out)
      obtain ⟨X, m, cap, rfl, hrest⟩ := hN
      clear HP NN hrest
      go_wp2_with fail
      go_ret2
      exact HN.out

theorem pairL_succ (n : Nat) (f g : Nat → Int) : pairL (n + 1) f g = pairL n f g ++ [.int .i64 (f n), .int .i64 (g n)] := by
  unfold pairL
  rw [show (n + 1) * 2 = n * 2 + 1 + 1 by omega, List.range_succ, List.range_succ]
  simp only [List.map_append, List.map_cons, List.map_nil, List.append_assoc, List.singleton_append]
  unfold pairAt
  rw [if_pos (by omega), if_neg (by omega), show n * 2 / 2 = n by omega, show (n * 2 + 1) / 2 = n by omega]

set_option maxRecDepth 100000 in
set_option maxHeartbeats 2000000 in
theorem joined_any (A1 A2 : Option Addr) (n1 c1 n2 c2 : Nat) (f1 g1 f2 g2 : Nat → Int) (s : Int) (w : World) (hs : s = 1 ∨ s = -1) (hn1 : n1 ≤ 200) (hn2 : n2 ≤ 200) (hl1 : A1 = none → n1 = 0 ∧ c1 = 0)
    (hp1 : Pairs w w.heap.size A1 n1 f1 g1) (hp2 : Pairs w w.heap.size A2 n2 f2 g2) :
    Calls Try.prog 25 #[.slice A1 n1 c1, .slice A2 n2 c2, .int .i64 s] w (CatPost (n1 + n2) (pairL (n1 + n2) (app f1 f2 n1) (app g1 (sgn s g2) n1)) w) := by
  rw [← pairL_app]
  have HP1 := Lib.hid hp1
  have HP2 := Lib.hid hp2
  have HL1 := Lib.hid hl1
  have ha0 : (n1 : Int) ≤ 200 := by omega
  have ha1 : (n2 : Int) ≤ 200 := by omega
  have hs0 : -1 ≤ s := by omega
  have hs1 : s ≤ 1 := by omega
  have HS := Lib.hid hs
  obtain ⟨i0, hi0, hz0, hz1, hz2⟩ := info_parts cash_info
  have HI := Lib.hid hi0
  have HZ0 := Lib.hid hz0
  have HZ1 := Lib.hid hz1
  have HZ2 := Lib.hid hz2
  clear hp1 hp2 hl1 hi0 hz0 hz1 hz2 hs
  have hsz : w.heap.size ≤ (w.alloc (.cells #[] 37)).heap.size := by simp
  have HB0 : Hid (Below w.heap.size w (w.alloc (.cells #[] 37))) := Lib.hid ((Below.refl _ w).alloc (Nat.le_refl _) _)
  have HO0 : Hid ((w.alloc (.cells #[] 37)).ownsRow w.heap.size 37 2 (.slice (some ⟨w.heap.size, 0, none⟩) 0 0) 0 []) := Lib.hid ⟨rfl, .inr ⟨w.heap.size, 0, #[], rfl, Nat.le_refl _, heap_alloc_new w _, by omega, by unfold maxLen; omega, rfl, rfl⟩⟩
  go_enter Try.func25, Try.ntmps25
  go_wp2_with ((at_builtin; refine wpList_append_cells _ rfl _ _ 42 rfl w.heap.size 37 i0 _ 2 16 Try.underlying42 HI.out HZ0.out HZ1.out HZ2.out rfl (by omega) _ 0 [] rfl HO0.out w.heap.size A1 n1 c1 (pairAt f1 g1) rfl (HP1.out.below HB0.out) HL1.out (fun j _ => by unfold pairAt; split <;> rfl) (by unfold maxLen; omega) (by omega) hsz ?_; intro v' w2 hown hgrow hat; have HO : Hid (w2.ownsRow w.heap.size 37 2 v' (n1 + 0) (pairL n1 f1 g1 ++ pairL 0 f2 (sgn s g2))) := Lib.hid (by have := hown; rw [Nat.zero_add, List.nil_append] at this; rw [show pairL 0 f2 (sgn s g2) = [] from rfl, List.append_nil]; exact this); have HB : Hid (Below w.heap.size w w2) := Lib.hid (HB0.out.grown hgrow hsz fun q hq => by obtain ⟨_, _, hg⟩ := own_form HO0.out hq; exact hg); clear hown hgrow hat HO0 HB0))
  go_loopw [7, 8, 9] (fun v i _ wr => ∃ k : Nat, k ≤ n2 ∧ i = .int .i64 k ∧ Hid (wr.ownsRow w.heap.size 37 2 v (n1 + k) (pairL n1 f1 g1 ++ pairL k f2 (sgn s g2))) ∧ Hid (Below w.heap.size w wr)) (fun _ i _ _ => n2 - (intOf i).toNat)
  case atStart => exact ⟨0, by omega, rfl, HO, HB⟩
  case round =>
    clear HO HB hsz
    obtain ⟨k, hk, rfl, HO, HB⟩ := hrel
    by_cases hlt : k < n2
    · have hi0 : (0 : Int) ≤ k := by omega
      have hi1 : (k : Int) < n2 := by omega
      have hsz := HB.out.size
      obtain ⟨b, o, rfl, had, hc0, hc1⟩ := ((HP2.out.below HB.out).mono hsz).get hlt
      have hsu := pairL_succ k f2 (sgn s g2)
      have hsg : sgn s g2 k = if Am.validB (g2 k) = true then s * g2 k else g2 k := rfl
      obtain ⟨x, hx⟩ : ∃ x, f2 k = x := ⟨_, rfl⟩
      obtain ⟨y, hy⟩ : ∃ x, g2 k = x := ⟨_, rfl⟩
      rw [hx] at hc0 hsu
      rw [hy] at hc1 hsg
      rw [hsg] at hsu
      clear hx hy hsg
      have HPN : Hid (∀ q, u7.ownBlock = some q → q < wr.heap.size) := Lib.hid fun q hq => (own_lt HO.out hq).1
      have HX : Hid (Has (wr.alloc (.cells #[.int .i64 x, .int .i64 y] 37)) wr.heap.size #[.int .i64 x, .int .i64 y] 37) := Lib.hid (Has.new wr _ _)
      obtain ⟨P, hP⟩ : ∃ P, wr.heap.size = P := ⟨_, rfl⟩
      cases hv : Am.validB y with
      | false =>
        have HV := Lib.hid hv
        rw [if_neg (by rw [hv]; simp)] at hsu
        have HSU := Lib.hid hsu
        clear hv hsu
        go_wp2_with fail
        refine (rval_is HV.out _).mono ?_
        rintro e w' ⟨rfl, rfl⟩
        obtain ⟨W, hW⟩ : ∃ W, wr.alloc (.cells #[.int .i64 x, .int .i64 y] 37) = W := ⟨_, rfl⟩
        replace HX : Hid (Has W P #[.int .i64 x, .int .i64 y] 37) := Lib.hid (by rw [← hW, ← hP]; exact HX.out)
        replace HO : Hid (W.ownsRow w.heap.size 37 2 u7 (n1 + k) (pairL n1 f1 g1 ++ pairL k f2 (sgn s g2))) := Lib.hid (by rw [← hW]; exact HO.out.alloc _)
        replace HB : Hid (Below w.heap.size w W) := Lib.hid (by rw [← hW]; exact HB.out.alloc hsz _)
        rw [hP] at hsz
        rw [hW]
        clear hW hP had hc0 hc1
        obtain ⟨v0, v1, v2⟩ := HX.out.rules
        have hsW := HB.out.size
        go_wp2_with ((at_builtin; refine wpList_append_lies _ rfl _ _ 42 rfl w.heap.size 37 i0 _ 2 16 Try.underlying42 HI.out HZ0.out HZ1.out HZ2.out rfl (by omega) u7 (n1 + k) (pairL n1 f1 g1 ++ pairL k f2 (sgn s g2)) rfl (HO.out.alloc _) ⟨W.heap.size, 0, none⟩ 1 1 [.int .i64 x, .int .i64 y] rfl rfl (World.news_of_block (cs := #[.int .i64 x, .int .i64 y]) (t := 37) (fr := (0, 0)) (heap_alloc_new W _)) (by simp [Value.oneCell']) (by omega) (by unfold maxLen; omega) (by omega) (by simp; omega) (W.heap.size + 1) (by simp) ?_; intro g cap w5 hown hgrow hat hlt5; have HO2 : Hid (w5.ownsRow w.heap.size 37 2 (.slice (some ⟨g, 0, none⟩) (n1 + k + 1) cap) (n1 + (k + 1)) (pairL n1 f1 g1 ++ pairL (k + 1) f2 (sgn s g2))) := Lib.hid (by rw [HSU.out, ← List.append_assoc]; exact hown); have HB2 : Hid (Below w.heap.size w w5) := Lib.hid ((HB.out.alloc hsW _).grown hgrow (by simp; omega) fun q hq => by obtain ⟨_, _, hg⟩ := own_form HO.out hq; exact hg); clear hown hgrow hat))
        go_roundw
        case rel => exact ⟨k + 1, by omega, by go_num, HO2, HB2⟩
        case measure => simp [intOf]; omega
      | true =>
        have HV := Lib.hid hv
        rw [if_pos hv] at hsu
        have HSU := Lib.hid hsu
        have hyb := (Am.validB_iff y).1 hv
        have hmb : -17592186044416 ≤ s * y ∧ s * y ≤ 17592186044416 := by
          rcases HS.out with e | e <;> subst e <;> omega
        obtain ⟨m0, m1⟩ := hmb
        clear hv hsu hyb
        go_wp2_with fail
        refine (rval_is HV.out _).mono ?_
        rintro e w' ⟨rfl, rfl⟩
        rw [hP] at HPN
        obtain ⟨W, hW⟩ : ∃ W, wr.alloc (.cells #[.int .i64 x, .int .i64 y] 37) = W := ⟨_, rfl⟩
        replace HX : Hid (Has W P #[.int .i64 x, .int .i64 y] 37) := Lib.hid (by rw [← hW, ← hP]; exact HX.out)
        replace HO : Hid (W.ownsRow w.heap.size 37 2 u7 (n1 + k) (pairL n1 f1 g1 ++ pairL k f2 (sgn s g2))) := Lib.hid (by rw [← hW]; exact HO.out.alloc _)
        replace HB : Hid (Below w.heap.size w W) := Lib.hid (by rw [← hW]; exact HB.out.alloc hsz _)
        rw [hP] at hsz
        rw [hW]
        clear hW hP had hc0 hc1
        obtain ⟨v0, v1, v2⟩ := HX.out.rules
        go_upto_region 8 with (fail)
        obtain ⟨W2, hW⟩ : ∃ W2, W.setCell ⟨P, 1, none⟩ (.int .i64 (s * y)) = W2 := ⟨_, rfl⟩
        replace HX : Hid (Has W2 P #[.int .i64 x, .int .i64 (s * y)] 37) := Lib.hid (by rw [← hW]; exact HX.out.put 1 _)
        replace HO : Hid (W2.ownsRow w.heap.size 37 2 u7 (n1 + k) (pairL n1 f1 g1 ++ pairL k f2 (sgn s g2))) := Lib.hid (by rw [← hW]; exact own_leaves HO.out (Leaves.one _ _ _ _) (fun q hq e => by have := HPN.out q hq; omega))
        replace HB : Hid (Below w.heap.size w W2) := Lib.hid (by rw [← hW]; exact HB.out.setCell (p := ⟨P, 1, none⟩) hsz _)
        rw [hW]
        clear hW v0 v1 v2
        obtain ⟨v0, v1, v2⟩ := HX.out.rules
        have hsW := HB.out.size
        go_wp2_with ((at_builtin; refine wpList_append_lies _ rfl _ _ 42 rfl w.heap.size 37 i0 _ 2 16 Try.underlying42 HI.out HZ0.out HZ1.out HZ2.out rfl (by omega) u7 (n1 + k) (pairL n1 f1 g1 ++ pairL k f2 (sgn s g2)) rfl (HO.out.alloc _) ⟨W2.heap.size, 0, none⟩ 1 1 [.int .i64 x, .int .i64 (s * y)] rfl rfl (World.news_of_block (cs := #[.int .i64 x, .int .i64 (s * y)]) (t := 37) (fr := (0, 0)) (heap_alloc_new W2 _)) (by simp [Value.oneCell']) (by omega) (by unfold maxLen; omega) (by omega) (by simp; omega) (W2.heap.size + 1) (by simp) ?_; intro g cap w5 hown hgrow hat hlt5; have HO2 : Hid (w5.ownsRow w.heap.size 37 2 (.slice (some ⟨g, 0, none⟩) (n1 + k + 1) cap) (n1 + (k + 1)) (pairL n1 f1 g1 ++ pairL (k + 1) f2 (sgn s g2))) := Lib.hid (by rw [HSU.out, ← List.append_assoc]; exact hown); have HB2 : Hid (Below w.heap.size w w5) := Lib.hid ((HB.out.alloc hsW _).grown hgrow (by simp; omega) fun q hq => by obtain ⟨_, _, hg⟩ := own_form HO.out hq; exact hg); clear hown hgrow hat))
        go_roundw
        case rel => exact ⟨k + 1, by omega, by go_num, HO2, HB2⟩
        case measure => simp [intOf]; omega
    · obtain rfl : k = n2 := by omega
      go_wp2_with fail
      go_ret
      exact ⟨_, rfl, HO.out, HB.out⟩
end Go.Proofs.Ytojpjglkdmmfjaa
