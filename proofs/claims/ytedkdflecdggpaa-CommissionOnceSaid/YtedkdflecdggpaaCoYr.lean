/- The years and the scales that the laws of layer 24 make. -/
import Derived.Test.YtedkdflecdggpaaPairsOwn
import Derived.Test.YtedkdflecdggpaaDeck
import Derived.Test.YtedkdflecdggpaaCoMath2
import Derived.Deep.AppendLies
import Derived.Deep.RegionLaw
import Derived.KernelRfl
namespace Go.Proofs.Ytedkdflecdggpaa
open Go.RowKit
set_option linter.unusedVariables false

set_option maxRecDepth 100000 in
theorem year_info : (Try.prog.info? 56).map (fun i => (i.zero, i.size, i.bytes)) = some (some (.agg #[.int .i64 0, .int .i64 0]), 2, 16) := by kernel_rfl
set_option maxRecDepth 100000 in
theorem slide_info : (Try.prog.info? 25).map (fun i => (i.zero, i.size, i.bytes)) = some (some (.agg #[.int .i64 0, .int .i64 0]), 2, 16) := by kernel_rfl

theorem own_cell {w : World} {base : Nat} {e : TypeId} {n c g : Nat} {ps : List (Int × Int)} (h : w.ownsRow base e 2 (.slice (some ⟨g, 0, none⟩) n c) n (cellsOf ps)) (j : Nat) (hj : j < n) : w.cell? ⟨g, j * 2, none⟩ = some (.int .i64 (fstOf ps j)) := by
  obtain ⟨b', o', e', _, hc0, _⟩ := (Pairs.of_own h).get hj
  simp only [Option.some.injEq, Addr.mk.injEq, and_true] at e'
  obtain ⟨rfl, rfl⟩ := e'
  rwa [Nat.zero_add] at hc0
theorem last_mem (ps : List (Int × Int)) (j : Nat) (h : j < ps.length) : (fstOf ps j, sndOf ps j) ∈ ps := by
  have e : ps.getD j (0, 0) = ps[j] := by simp [List.getD, List.getElem?_eq_getElem h]
  unfold fstOf sndOf
  rw [e]
  exact List.getElem_mem h
theorem own_new (w : World) (e : TypeId) (x y : Value) : (w.alloc (.cells #[x, y] e)).ownsRow w.heap.size e 2 (.slice (some ⟨w.heap.size, 0, none⟩) 1 1) 1 [x, y] :=
  ⟨rfl, .inr ⟨w.heap.size, 1, #[x, y], rfl, Nat.le_refl _, heap_alloc_new w _, Nat.le_refl _, by unfold maxLen; omega, rfl, rfl⟩⟩
theorem own_cap {w : World} {base : Nat} {e : TypeId} {n c g size : Nat} {xs : List Value} (h : w.ownsRow base e size (.slice (some ⟨g, 0, none⟩) n c) n xs) : n ≤ c := by
  rcases h.2 with ⟨h, _⟩ | ⟨g', cap, cur, hv, hg, hh, hr, _⟩
  · cases h
  · injection hv with _ _ h3
    omega
theorem fst_old (ps : List (Int × Int)) (a : Int × Int) (j : Nat) (h : j < ps.length) : fstOf (ps ++ [a]) j = fstOf ps j := by
  unfold fstOf
  simp [List.getD, List.getElem?_append_left h]
theorem fst_new (ps : List (Int × Int)) (a : Int × Int) : fstOf (ps ++ [a]) ps.length = a.1 := by
  unfold fstOf
  simp [List.getD]

/-- what years returns -/
def YearPost (b : Nat) (w : World) (e : Ending) (w' : World) : Prop := ∃ (A : Option Addr) (c : Nat) (ps : List (Int × Int)), e = .returned (.slice A ps.length c) ∧ ps.length ≤ 8 ∧ (∀ ad, A = some ad → ad.block ≠ b ∧ w.heap.size ≤ ad.block) ∧
  Pairs w' w'.heap.size A ps.length (fstOf ps) (sndOf ps) ∧ (∀ a, a ∈ ps → 0 ≤ a.1 ∧ a.1 ≤ 1000000 ∧ 0 ≤ a.2 ∧ a.2 ≤ 1000000) ∧ Keeps b w w' ∧ IsDeck w' b

set_option maxRecDepth 100000 in
set_option maxHeartbeats 2000000 in
theorem years_any (b : Nat) (w : World) (hd : IsDeck w b) :
    Calls Try.prog 21 #[.pointer (some ⟨b, 0, none⟩)] w (YearPost b w) := by
  have HD := Lib.hid hd
  have hb := hd.lt
  obtain ⟨i0, hi0, hz0, hz1, hz2⟩ := info_parts year_info
  have HI := Lib.hid hi0
  have HZ0 := Lib.hid hz0
  have HZ1 := Lib.hid hz1
  have HZ2 := Lib.hid hz2
  clear hd hi0 hz0 hz1 hz2
  go_enter Try.func21, Try.ntmps21
  go_wp2_with fail
  refine (next_any b 9 _ HD.out (by omega) (by omega)).mono ?_
  rintro e w1 ⟨k0, rfl, k1, k2, hk, hd⟩
  have HK := Lib.hid hk
  replace HD := Lib.hid hd
  clear hk hd
  obtain ⟨kn, rfl⟩ : ∃ n : Nat, k0 = n := ⟨k0.toNat, by omega⟩
  go_wp2_with fail
  go_loopw [3, 4] (fun v i wr => ∃ (k : Nat) (ps : List (Int × Int)), k + ps.length ≤ 8 ∧ i = .int .i64 k ∧ Hid (wr.ownsRow w.heap.size 56 2 v ps.length (cellsOf ps)) ∧ Hid (∀ a, a ∈ ps → 0 ≤ a.1 ∧ a.1 ≤ 1000000 ∧ 0 ≤ a.2 ∧ a.2 ≤ 1000000) ∧ Hid (Keeps b w wr) ∧ Hid (IsDeck wr b)) (fun _ i _ => (intOf i).toNat)
  case atStart => exact ⟨kn, [], by simp; omega, rfl, Lib.hid ⟨rfl, .inl ⟨rfl, rfl⟩⟩, Lib.hid fun a ha => by simp at ha, HK, HD⟩
  case round =>
    obtain ⟨k, ps, hkp, rfl, HO, HA, HK, HD⟩ := hrel
    by_cases hz : k = 0
    · subst hz
      have hs := HK.out.size
      rcases HO.out.2 with ⟨hv, hv0⟩ | ⟨g, cap, cur, hv, hg, _, _, _, _, _⟩
      · subst hv
        go_wp2_with fail
        go_ret
        exact ⟨none, 0, ps, by rw [hv0]; rfl, by omega, (fun ad h => by cases h), by rw [hv0]; exact Pairs.zero, HA.out, HK.out, HD.out⟩
      · subst hv
        go_wp2_with fail
        go_ret
        refine ⟨_, cap, ps, rfl, by omega, fun ad h => ?_, Pairs.of_own HO.out, HA.out, HK.out, HD.out⟩
        injection h with h
        subst h
        exact ⟨by simp only; omega, hg⟩
    · have hk1 : (0 : Int) < k := by omega
      go_wp2_with fail
      refine (upto_any b 1000000 _ HD.out (by omega) (by omega)).mono ?_
      rintro e w2 ⟨x, rfl, x0, x1, hk2, hd2⟩
      replace HO := Lib.hid (own_keeps HO.out hk2 hb)
      replace HK := Lib.hid (HK.out.trans hk2)
      replace HD := Lib.hid hd2
      clear hk2 hd2
      go_wp2_with fail
      refine (upto_any b 1000000 _ HD.out (by omega) (by omega)).mono ?_
      rintro e w3 ⟨y, rfl, y0, y1, hk2, hd2⟩
      replace HO := Lib.hid (own_keeps HO.out hk2 hb)
      replace HK := Lib.hid (HK.out.trans hk2)
      replace HD := Lib.hid hd2
      have hs := HK.out.size
      clear hk2 hd2
      have HP : Hid (cellsOf (ps ++ [(x, y)]) = cellsOf ps ++ [.int .i64 x, .int .i64 y]) := Lib.hid (cellsOf_snoc ps (x, y))
      have HA2 : Hid (∀ a, a ∈ ps ++ [(x, y)] → 0 ≤ a.1 ∧ a.1 ≤ 1000000 ∧ 0 ≤ a.2 ∧ a.2 ≤ 1000000) := Lib.hid fun a ha => by
        rcases List.mem_append.1 ha with h | h
        · exact HA.out a h
        · simp at h; subst h; simp only; omega
      go_wp2_with ((at_builtin; refine wpList_append_lies _ rfl _ _ 37 rfl w.heap.size 56 i0 _ 2 16 Try.underlying37 HI.out HZ0.out HZ1.out HZ2.out rfl (by omega) u3 ps.length (cellsOf ps) rfl (HO.out.alloc _) ⟨w3.heap.size, 0, none⟩ 1 1 [.int .i64 x, .int .i64 y] rfl rfl (World.news_of_block (cs := #[.int .i64 x, .int .i64 y]) (t := 56) (fr := (0, 0)) (heap_alloc_new w3 _)) (by simp [Value.oneCell']) (by omega) (by unfold maxLen; omega) (by omega) (by simp; omega) (w3.heap.size + 1) (by simp) ?_; intro g cap w4 hown hgrow hat hlt))
      have HO2 := Lib.hid hown
      have HK2 : Hid (Keeps b w w4) := Lib.hid ((HK.out.alloc _).grown hgrow fun q hq => by obtain ⟨_, _, hg⟩ := own_form HO.out hq; exact hg)
      have HD2 : Hid (IsDeck w4 b) := Lib.hid ((HD.out.alloc _).below ((Below.refl (b + 1) _).grown hgrow (by simp; omega) fun q hq => by obtain ⟨_, _, hg⟩ := own_form HO.out hq; omega) (by omega))
      clear hown hgrow hat
      go_wp2_with fail
      go_roundw
      case rel => exact ⟨k - 1, ps ++ [(x, y)], by simp; omega, by congr 1; omega, Lib.hid (by rw [HP.out]; simpa using HO2.out), HA2, HK2, HD2⟩
      case measure => simp [intOf]; omega

/-- what scale returns -/
def ScalePost (b : Nat) (w : World) (e : Ending) (w' : World) : Prop := ∃ (g c : Nat) (ps : List (Int × Int)), e = .returned (.slice (some ⟨g, 0, none⟩) ps.length c) ∧ 1 ≤ ps.length ∧ ps.length ≤ 8 ∧ ps.length ≤ c ∧ g ≠ b ∧ w.heap.size ≤ g ∧
  Pairs w' w'.heap.size (some ⟨g, 0, none⟩) ps.length (fstOf ps) (sndOf ps) ∧ (∀ a, a ∈ ps → 0 ≤ a.1 ∧ a.1 ≤ 8000008 ∧ 0 ≤ a.2 ∧ a.2 ≤ 1000000) ∧ (∀ i, 0 < i → i < ps.length → fstOf ps (i - 1) < fstOf ps i) ∧ Keeps b w w' ∧ IsDeck w' b

set_option maxRecDepth 100000 in
set_option maxHeartbeats 2000000 in
theorem scale_any (b : Nat) (w : World) (hd : IsDeck w b) :
    Calls Try.prog 15 #[.pointer (some ⟨b, 0, none⟩)] w (ScalePost b w) := by
  have HD := Lib.hid hd
  have hb := hd.lt
  obtain ⟨i0, hi0, hz0, hz1, hz2⟩ := info_parts slide_info
  have HI := Lib.hid hi0
  have HZ0 := Lib.hid hz0
  have HZ1 := Lib.hid hz1
  have HZ2 := Lib.hid hz2
  clear hd hi0 hz0 hz1 hz2
  go_enter Try.func15, Try.ntmps15
  go_wp2_with fail
  refine (upto_any b 1000000 _ HD.out (by omega) (by omega)).mono ?_
  rintro e w0 ⟨v0, rfl, v1, v2, hk, hd⟩
  have HK := Lib.hid hk
  replace HD := Lib.hid hd
  clear hk hd
  go_wp2_with fail
  refine (upto_any b 1000000 _ HD.out (by omega) (by omega)).mono ?_
  rintro e w1 ⟨y0, rfl, y1, y2, hk, hd⟩
  replace HK := Lib.hid (HK.out.trans hk)
  replace HD := Lib.hid hd
  have hs1 := HK.out.size
  clear hk hd
  go_wp2_with fail
  refine (next_any b 8 _ (HD.out.alloc _) (by omega) (by omega)).mono ?_
  rintro e w2 ⟨k0, rfl, k1, k2, hk, hd⟩
  have HO : Hid (w2.ownsRow w.heap.size 25 2 (.slice (some ⟨w1.heap.size, 0, none⟩) 1 1) 1 (cellsOf [(v0, y0)])) := Lib.hid (own_keeps (by
    have := own_new w1 25 (.int .i64 v0) (.int .i64 y0)
    exact ⟨this.1, by
      rcases this.2 with ⟨h, _⟩ | ⟨g, cap, cur, h1, h2, h3⟩
      · cases h
      · exact .inr ⟨g, cap, cur, h1, by omega, h3⟩⟩) hk hb)
  replace HK : Hid (Keeps b w w2) := Lib.hid ((HK.out.alloc _).trans hk)
  replace HD := Lib.hid hd
  clear hk hd
  obtain ⟨kn, rfl⟩ : ∃ n : Nat, k0 = n := ⟨k0.toNat, by omega⟩
  go_wp2_with fail
  go_loopw [3, 4] (fun v i wr => ∃ (k g c : Nat) (ps : List (Int × Int)), k + ps.length ≤ 8 ∧ 1 ≤ ps.length ∧ i = .int .i64 k ∧ v = .slice (some ⟨g, 0, none⟩) ps.length c ∧ Hid (wr.ownsRow w.heap.size 25 2 (.slice (some ⟨g, 0, none⟩) ps.length c) ps.length (cellsOf ps)) ∧ Hid (∀ a, a ∈ ps → 0 ≤ a.1 ∧ a.1 ≤ 1000001 * ps.length ∧ 0 ≤ a.2 ∧ a.2 ≤ 1000000) ∧ Hid (∀ i, 0 < i → i < ps.length → fstOf ps (i - 1) < fstOf ps i) ∧ Hid (Keeps b w wr) ∧ Hid (IsDeck wr b)) (fun _ i _ => (intOf i).toNat)
  case atStart => exact ⟨kn, w1.heap.size, 1, [(v0, y0)], by simp; omega, by simp, rfl, rfl, HO, Lib.hid fun a ha => by simp at ha; subst ha; simp; omega, Lib.hid fun i h1 h2 => by simp at h2; omega, HK, HD⟩
  case round =>
    obtain ⟨k, g, c, ps, hkp, hp1, rfl, rfl, HO, HA, HS, HK, HD⟩ := hrel
    obtain ⟨_, hfm, hgw⟩ := own_form HO.out (g0 := g) rfl
    by_cases hz : k = 0
    · subst hz
      go_wp2_with fail
      go_ret
      exact ⟨g, c, ps, rfl, hp1, by omega, own_cap HO.out, by omega, hgw, Pairs.of_own HO.out, fun a ha => by have := HA.out a ha; omega, HS.out, HK.out, HD.out⟩
    · have hk1 : (0 : Int) < k := by omega
      obtain ⟨m, hm⟩ : ∃ m, ps.length = m + 1 := ⟨ps.length - 1, by omega⟩
      obtain ⟨la, hla⟩ : ∃ la, fstOf ps m = la := ⟨_, rfl⟩
      have hlb := HA.out _ (last_mem ps m (by omega))
      simp only [hla] at hlb
      obtain ⟨la0, la1, _, _⟩ := hlb
      have HLA := Lib.hid hla
      have HM := Lib.hid hm
      rw [hm] at HO hkp la1 ⊢
      have hc0 := own_cell HO.out m (by omega)
      rw [hla] at hc0
      have hgl : g < wr.heap.size := cell_lt hc0
      have hw1 : IntKind.i64.wrap (m : Int) = m := by rw [IntKind.wrap_i64]; omega
      have hw2 : IntKind.i64.wrap (la + 1) = la + 1 := by rw [IntKind.wrap_i64]; omega
      have hm0 : (0 : Int) ≤ m := by omega
      have hm1 : (m : Int) < (m : Int) + 1 := by omega
      have hla160 : la ≤ 8000008 := by omega
      replace HO : Hid (wr.drew.ownsRow w.heap.size 25 2 (.slice (some ⟨g, 0, none⟩) (m + 1) c) (m + 1) (cellsOf ps)) := Lib.hid HO.out.drew
      replace HK : Hid (Keeps b w wr.drew) := Lib.hid (HK.out.drewN 1)
      replace HD : Hid (IsDeck wr.drew b) := Lib.hid (HD.out.drewN 1)
      have tok1 : True := trivial
      clear hla hm
      go_wp2_with fail
      go_region_law (first
        | (refine step_append_lies _ (by rfl) _ _ _ (by rfl) w.heap.size 25 i0 _ 2 16 Try.underlying22 HI.out HZ0.out HZ1.out HZ2.out rfl (by omega) (.slice (some ⟨g, 0, none⟩) (m + 1) c) (m + 1) (cellsOf ps) (by rfl) (HO.out.alloc _) ⟨wy.heap.size, 0, none⟩ 1 1 [.int .i64 (la + 1 + x), .int .i64 y] (by rfl) (by rfl) (World.news_of_block (cs := #[.int .i64 (la + 1 + x), .int .i64 y]) (t := 25) (fr := (0, 0)) (heap_alloc_new wy _)) (by simp [Value.oneCell']) (by omega) (by unfold maxLen; omega) (by omega) (by simp; omega) (wy.heap.size + 1) (by simp) ?_; intro gg cap w4 hown hgrow hat hlt)
        | (go_simp; go_at_call 16; have _t := tok1; refine (upto_any b _ _ HD.out (by omega) (by omega)).mono ?_; rintro e wx ⟨x, rfl, x0, x1, hk2, hd2⟩; replace HO := Lib.hid (own_keeps HO.out hk2 hb); replace HK := Lib.hid (HK.out.trans hk2); replace HD := Lib.hid hd2; clear hk2 hd2 hc0 tok1 _t; have hc0 := own_cell HO.out m (by omega); rw [HLA.out] at hc0; have hwx : IntKind.i64.wrap (la + 1 + x) = la + 1 + x := (by rw [IntKind.wrap_i64]; omega))
        | (go_simp; go_at_call 16; refine (upto_any b _ _ HD.out (by omega) (by omega)).mono ?_; rintro e wy ⟨y, rfl, y0, y1, hk2, hd2⟩; replace HO := Lib.hid (own_keeps HO.out hk2 hb); replace HK := Lib.hid (HK.out.trans hk2); replace HD := Lib.hid hd2; clear hk2 hd2 hc0; have hc0 := own_cell HO.out m (by omega); rw [HLA.out] at hc0; have hsy := HK.out.size))
      all_goals
        have HL : Hid ((ps ++ [(la + 1 + x, y)]).length = m + 1 + 1) := Lib.hid (by rw [List.length_append, HM.out]; rfl)
        have HO2 : Hid (w4.ownsRow w.heap.size 25 2 (.slice (some ⟨gg, 0, none⟩) (m + 1 + 1) cap) (m + 1 + 1) (cellsOf (ps ++ [(la + 1 + x, y)]))) := Lib.hid (by rw [cellsOf_snoc]; exact hown)
        have HA2 : Hid (∀ a, a ∈ ps ++ [(la + 1 + x, y)] → 0 ≤ a.1 ∧ a.1 ≤ 1000001 * ((ps ++ [(la + 1 + x, y)]).length : Int) ∧ 0 ≤ a.2 ∧ a.2 ≤ 1000000) := Lib.hid fun a ha => by
          rw [HL.out]
          rcases List.mem_append.1 ha with h | h
          · have := HA.out a h
            rw [HM.out] at this
            omega
          · simp only [List.mem_singleton] at h
            subst h
            simp only
            omega
        have HS2 : Hid (∀ i, 0 < i → i < (ps ++ [(la + 1 + x, y)]).length → fstOf (ps ++ [(la + 1 + x, y)]) (i - 1) < fstOf (ps ++ [(la + 1 + x, y)]) i) := Lib.hid fun i h1 h2 => by
          rw [HL.out] at h2
          have hM := HM.out
          by_cases e : i = m + 1
          · subst e
            rw [fst_old _ _ _ (by omega), Nat.add_sub_cancel, HLA.out, ← hM, fst_new]
            simp only
            omega
          · rw [fst_old _ _ _ (by omega), fst_old _ _ _ (by omega)]
            exact HS.out i h1 (by omega)
        have HK2 : Hid (Keeps b w w4) := Lib.hid ((HK.out.alloc _).grown hgrow fun q hq => by obtain ⟨_, _, hg⟩ := own_form HO.out hq; exact hg)
        have HD2 : Hid (IsDeck w4 b) := Lib.hid ((HD.out.alloc _).below ((Below.refl (b + 1) _).grown hgrow (by simp; omega) fun q hq => by obtain ⟨_, _, hg⟩ := own_form HO.out hq; omega) (by omega))
        clear hown hgrow hat hw1 hw2 hwx hc0
        go_wp2_with fail
        go_roundw
        case rel => exact ⟨k - 1, gg, cap, ps ++ [(la + 1 + x, y)], by rw [HL.out]; omega, by rw [HL.out]; omega, by congr 1; omega, by rw [HL.out], by rw [HL.out]; exact HO2, HA2, HS2, HK2, HD2⟩
        case measure => simp [intOf]; omega
end Go.Proofs.Ytedkdflecdggpaa
