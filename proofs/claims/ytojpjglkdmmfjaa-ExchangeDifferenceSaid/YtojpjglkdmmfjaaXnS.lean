/- The reference's SameCash; the cash that the deck makes. -/
import Derived.Test.YtojpjglkdmmfjaaXnR
import Derived.Test.YtojpjglkdmmfjaaDeck
namespace Go.Proofs.Ytojpjglkdmmfjaa
open Go.RowKit
set_option linter.unusedVariables false

set_option maxHeartbeats 1000000 in
theorem samecash_yes (A A2 : Option Addr) (n c c2 : Nat) (f g : Nat → Int) (B B2 : Nat) (w : World) (hn : n ≤ 9223372036854775807) (h1 : Pairs w B A n f g) (h2 : Pairs w B2 A2 n f g) :
    Calls Try.prog 22 #[.slice A n c, .slice A2 n c2] w fun e w' => e = .returned (.bool true) ∧ ∃ m, w' = w.drewN m := by
  have H1 := Lib.hid h1
  have H2 := Lib.hid h2
  clear h1 h2
  go_enter Try.func22, Try.ntmps22
  go_wp2
  go_loopw [5] (fun i wr => ∃ k : Nat, k ≤ n ∧ i = .int .i64 k ∧ ∃ m, wr = w.drewN m) (fun i _ => n - (intOf i).toNat)
  case atStart => exact ⟨0, Nat.zero_le _, rfl, 0, rfl⟩
  case round =>
    obtain ⟨k, hk, rfl, m, rfl⟩ := hrel
    by_cases hlt : k < n
    · obtain ⟨b, o, rfl, _, hc, hd⟩ := H1.out.get hlt
      obtain ⟨b', o', rfl, _, hc', hd'⟩ := H2.out.get hlt
      obtain ⟨x, hx⟩ : ∃ x, f k = x := ⟨_, rfl⟩
      obtain ⟨y, hy⟩ : ∃ x, g k = x := ⟨_, rfl⟩
      rw [hx] at hc hc'
      rw [hy] at hd hd'
      have hk0 : (0 : Int) ≤ k := by omega
      have hk1 : (k : Int) < n := by omega
      clear hx hy
      go_wp2
      go_quiet (fail)
      go_wp2
      go_roundw
      case rel => exact ⟨k + 1, by omega, by go_num, _, by first | rfl | exact World.drewN_drewN _ _ _⟩
      case measure => simp [intOf]; omega
    · go_wp2
      go_ret
      exact ⟨rfl, m, rfl⟩

/-- what Cash returns -/
def CashPost (b : Nat) (N : Nat) (w : World) (e : Ending) (w' : World) : Prop := ∃ (A : Option Addr) (c : Nat) (ps : List (Int × Int)), e = .returned (.slice A ps.length c) ∧ ps.length ≤ N ∧ (∀ ad, A = some ad → ad.block ≠ b ∧ w.heap.size ≤ ad.block) ∧
  Pairs w' w'.heap.size A ps.length (fstOf ps) (sndOf ps) ∧ (∀ a, a ∈ ps → 0 ≤ a.1 ∧ a.1 ≤ 3 ∧ -1073741824 ≤ a.2 ∧ a.2 ≤ 1073741824) ∧ Keeps b w w' ∧ IsDeck w' b ∧ (ps.length ≤ c ∧ (A = none → ps.length = 0 ∧ c = 0))

set_option maxRecDepth 100000 in
set_option maxHeartbeats 2000000 in
theorem dcash_any (b N : Nat) (w : World) (hd : IsDeck w b) (hN : N ≤ 100) :
    Calls Try.prog 21 #[.pointer (some ⟨b, 0, none⟩), .int .i64 N] w (CashPost b N w) := by
  have HD := Lib.hid hd
  have hb := hd.lt
  have hNi : (N : Int) ≤ 100 := by omega
  obtain ⟨i0, hi0, hz0, hz1, hz2⟩ := info_parts cash_info
  have HI := Lib.hid hi0
  have HZ0 := Lib.hid hz0
  have HZ1 := Lib.hid hz1
  have HZ2 := Lib.hid hz2
  clear hd hi0 hz0 hz1 hz2
  go_enter Try.func21, Try.ntmps21
  go_wp2_with fail
  refine (next_any b _ _ HD.out (by omega) (by omega)).mono ?_
  rintro e w1 ⟨k0, rfl, k1, k2, hk, hd⟩
  have HK := Lib.hid hk
  replace HD := Lib.hid hd
  clear hk hd
  obtain ⟨kn, rfl⟩ : ∃ n : Nat, k0 = n := ⟨k0.toNat, by omega⟩
  go_wp2_with fail
  go_loopw [5, 6, 7] (fun v i _ wr => ∃ (k : Nat) (ps : List (Int × Int)), k + ps.length ≤ N ∧ i = .int .i64 k ∧ Hid (wr.ownsRow w.heap.size 37 2 v ps.length (cellsOf ps)) ∧ Hid (∀ a, a ∈ ps → 0 ≤ a.1 ∧ a.1 ≤ 3 ∧ -1073741824 ≤ a.2 ∧ a.2 ≤ 1073741824) ∧ Hid (Keeps b w wr) ∧ Hid (IsDeck wr b)) (fun _ i _ _ => (intOf i).toNat)
  case atStart => exact ⟨kn, [], by simp; omega, rfl, Lib.hid ⟨rfl, .inl ⟨rfl, rfl⟩⟩, Lib.hid fun a ha => by simp at ha, HK, HD⟩
  case round =>
    obtain ⟨k, ps, hkp, rfl, HO, HA, HK, HD⟩ := hrel
    by_cases hz : k = 0
    · subst hz
      have hs := HK.out.size
      rcases HO.out.2 with ⟨hv, hv0⟩ | ⟨g, cap, cur, hv, hg, _, hcp, _, _, _⟩
      · subst hv
        go_wp2_with fail
        go_ret
        exact ⟨none, 0, ps, by rw [hv0]; rfl, by omega, (fun ad h => by cases h), by rw [hv0]; exact Pairs.zero, HA.out, HK.out, HD.out, by omega, fun _ => ⟨hv0, rfl⟩⟩
      · subst hv
        go_wp2_with fail
        go_ret
        refine ⟨_, cap, ps, rfl, by omega, fun ad h => ?_, Pairs.of_own HO.out, HA.out, HK.out, HD.out, hcp, fun e => by cases e⟩
        injection h with h
        subst h
        exact ⟨by simp only; omega, hg⟩
    · have hk1 : (0 : Int) < k := by omega
      go_wp2_with fail
      refine (next_any b 4 _ HD.out (by omega) (by omega)).mono ?_
      rintro e w2 ⟨x, rfl, x0, x1, hk2, hd2⟩
      replace HO := Lib.hid (own_keeps HO.out hk2 hb)
      replace HK := Lib.hid (HK.out.trans hk2)
      replace HD := Lib.hid hd2
      clear hk2 hd2
      go_wp2_with fail
      refine (money_any b _ HD.out).mono ?_
      rintro e w3 ⟨y, rfl, y0, y1, hk2, hd2⟩
      replace HO := Lib.hid (own_keeps HO.out hk2 hb)
      replace HK := Lib.hid (HK.out.trans hk2)
      replace HD := Lib.hid hd2
      clear hk2 hd2
      have hPn : ∀ q, u5.ownBlock = some q → q < w3.heap.size := fun q hq => (own_lt HO.out hq).1
      have HPN := Lib.hid hPn
      clear hPn
      go_wp2_with fail
      refine (next_any b 2 _ (HD.out.alloc _) (by omega) (by omega)).mono ?_
      rintro e w4 ⟨z, rfl, z0, z1, hk2, hd2⟩
      have hbn : b ≠ w3.heap.size := by have := HD.out.lt; omega
      have HX : Hid (Has w4 w3.heap.size #[.int .i64 x, .int .i64 y] 37) := Lib.hid ((Has.new w3 _ _).keeps hk2 (by omega))
      have hws := HK.out.size
      replace HO := Lib.hid (own_keeps (HO.out.alloc _) hk2 hb)
      replace HK := Lib.hid ((HK.out.alloc _).trans hk2)
      replace HD := Lib.hid hd2
      clear hk2 hd2
      obtain ⟨P, hP⟩ : ∃ P, w3.heap.size = P := ⟨_, rfl⟩
      rw [hP] at HX hws hbn HPN ⊢
      have hbP : b < P := by omega
      clear hP
      have hz2 : z = 0 ∨ z = 1 := by omega
      obtain ⟨v0, v1, v2⟩ := HX.out.rules
      rcases hz2 with rfl | rfl
      · have hs := HK.out.size
        have HP : Hid (cellsOf (ps ++ [(x, y)]) = cellsOf ps ++ [.int .i64 x, .int .i64 y]) := Lib.hid (cellsOf_snoc ps (x, y))
        have HA2 : Hid (∀ a, a ∈ ps ++ [(x, y)] → 0 ≤ a.1 ∧ a.1 ≤ 3 ∧ -1073741824 ≤ a.2 ∧ a.2 ≤ 1073741824) := Lib.hid fun a ha => by
          rcases List.mem_append.1 ha with h | h
          · exact HA.out a h
          · simp at h; subst h; simp only; omega
        go_wp2_with ((at_builtin; refine wpList_append_lies _ rfl _ _ 42 rfl w.heap.size 37 i0 _ 2 16 Try.underlying42 HI.out HZ0.out HZ1.out HZ2.out rfl (by omega) u5 ps.length (cellsOf ps) rfl (HO.out.alloc _) ⟨w4.heap.size, 0, none⟩ 1 1 [.int .i64 x, .int .i64 y] rfl rfl (World.news_of_block (cs := #[.int .i64 x, .int .i64 y]) (t := 37) (fr := (0, 0)) (heap_alloc_new w4 _)) (by simp [Value.oneCell']) (by omega) (by unfold maxLen; omega) (by omega) (by simp; omega) (w4.heap.size + 1) (by simp) ?_; intro g cap w5 hown hgrow hat hlt))
        have HO2 := Lib.hid hown
        have HK2 : Hid (Keeps b w w5) := Lib.hid ((HK.out.alloc _).grown hgrow fun q hq => by obtain ⟨_, _, hg⟩ := own_form HO.out hq; exact hg)
        have HD2 : Hid (IsDeck w5 b) := Lib.hid ((HD.out.alloc _).below ((Below.refl (b + 1) _).grown hgrow (by simp; omega) fun q hq => by obtain ⟨_, _, hg⟩ := own_form HO.out hq; omega) (by omega))
        clear hown hgrow hat
        go_wp2_with fail
        go_roundw
        case rel => exact ⟨k - 1, ps ++ [(x, y)], by simp; omega, by congr 1; omega, Lib.hid (by rw [HP.out]; simpa using HO2.out), HA2, HK2, HD2⟩
        case measure => simp [intOf]; omega
      · go_upto_region 8 with (fail)
        obtain ⟨W, hW⟩ : ∃ W, w4.setCell ⟨P, 1, none⟩ (.int .i64 (-y)) = W := ⟨_, rfl⟩
        replace HX : Hid (Has W P #[.int .i64 x, .int .i64 (-y)] 37) := Lib.hid (by rw [← hW]; exact HX.out.put 1 _)
        replace HO : Hid (W.ownsRow w.heap.size 37 2 u5 ps.length (cellsOf ps)) := Lib.hid (by rw [← hW]; exact own_leaves HO.out (Leaves.one _ _ _ _) (fun q hq e => by have := HPN.out q hq; omega))
        replace HK : Hid (Keeps b w W) := Lib.hid (by rw [← hW]; exact HK.out.far (by simp only; omega) _)
        replace HD : Hid (IsDeck W b) := Lib.hid (by rw [← hW]; exact HD.out.far hbP _)
        rw [hW]
        clear hW v0 v1 v2
        obtain ⟨v0, v1, v2⟩ := HX.out.rules
        have hs := HK.out.size
        have HP : Hid (cellsOf (ps ++ [(x, -y)]) = cellsOf ps ++ [.int .i64 x, .int .i64 (-y)]) := Lib.hid (cellsOf_snoc ps (x, -y))
        have HA2 : Hid (∀ a, a ∈ ps ++ [(x, -y)] → 0 ≤ a.1 ∧ a.1 ≤ 3 ∧ -1073741824 ≤ a.2 ∧ a.2 ≤ 1073741824) := Lib.hid fun a ha => by
          rcases List.mem_append.1 ha with h | h
          · exact HA.out a h
          · simp at h; subst h; simp only; omega
        go_wp2_with ((at_builtin; refine wpList_append_lies _ rfl _ _ 42 rfl w.heap.size 37 i0 _ 2 16 Try.underlying42 HI.out HZ0.out HZ1.out HZ2.out rfl (by omega) u5 ps.length (cellsOf ps) rfl (HO.out.alloc _) ⟨W.heap.size, 0, none⟩ 1 1 [.int .i64 x, .int .i64 (-y)] rfl rfl (World.news_of_block (cs := #[.int .i64 x, .int .i64 (-y)]) (t := 37) (fr := (0, 0)) (heap_alloc_new W _)) (by simp [Value.oneCell']) (by omega) (by unfold maxLen; omega) (by omega) (by simp; omega) (W.heap.size + 1) (by simp) ?_; intro g cap w5 hown hgrow hat hlt))
        have HO2 := Lib.hid hown
        have HK2 : Hid (Keeps b w w5) := Lib.hid ((HK.out.alloc _).grown hgrow fun q hq => by obtain ⟨_, _, hg⟩ := own_form HO.out hq; exact hg)
        have HD2 : Hid (IsDeck w5 b) := Lib.hid ((HD.out.alloc _).below ((Below.refl (b + 1) _).grown hgrow (by simp; omega) fun q hq => by obtain ⟨_, _, hg⟩ := own_form HO.out hq; omega) (by omega))
        clear hown hgrow hat
        go_wp2_with fail
        go_roundw
        case rel => exact ⟨k - 1, ps ++ [(x, -y)], by simp; omega, by congr 1; omega, Lib.hid (by rw [HP.out]; simpa using HO2.out), HA2, HK2, HD2⟩
        case measure => simp [intOf]; omega
end Go.Proofs.Ytojpjglkdmmfjaa
