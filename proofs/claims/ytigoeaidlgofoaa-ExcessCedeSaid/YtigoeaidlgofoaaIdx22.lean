/- The table of an index that the deck makes. -/
import Derived.Test.YtigoeaidlgofoaaPairsOwn
import Derived.Test.YtigoeaidlgofoaaDeck
import Derived.Deep.AppendLies
import Derived.Deep.RegionLaw
import Derived.KernelRfl
namespace Go.Proofs.Ytigoeaidlgofoaa
open Go.RowKit

set_option maxRecDepth 100000 in
theorem idx_info : (Try.prog.info? 42).map (fun i => (i.zero, i.size, i.bytes)) = some (some (.agg #[.int .i64 0, .int .i64 0]), 2, 16) := by kernel_rfl

theorem own_cell {w : World} {base : Nat} {e : TypeId} {n c g : Nat} {ps : List (Int × Int)} (h : w.ownsRow base e 2 (.slice (some ⟨g, 0, none⟩) n c) n (cellsOf ps)) (j : Nat) (hj : j < n) : w.cell? ⟨g, j * 2, none⟩ = some (.int .i64 (fstOf ps j)) := by
  obtain ⟨b', o', e', _, hc0, _⟩ := (Pairs.of_own h).get hj
  simp only [Option.some.injEq, Addr.mk.injEq, and_true] at e'
  obtain ⟨rfl, rfl⟩ := e'
  rwa [Nat.zero_add] at hc0
theorem last_mem (ps : List (Int × Int)) (j : Nat) (h : j < ps.length) : (fstOf ps j, sndOf ps j) ∈ ps := by
  have e : ps.getD j (0, 0) = ps[j] := by simp [List.getD, List.getElem?_eq_getElem h]
  unfold fstOf sndOf
  rw [e]
  exact List.getElem_mem h

/-- what Indices returns -/
def IdxPost (b : Nat) (w : World) (e : Ending) (w' : World) : Prop := ∃ (g c : Nat) (ps : List (Int × Int)), e = .returned (.slice (some ⟨g, 0, none⟩) ps.length c) ∧ 1 ≤ ps.length ∧ ps.length ≤ 4 ∧ g ≠ b ∧ w.heap.size ≤ g ∧
  Pairs w' w'.heap.size (some ⟨g, 0, none⟩) ps.length (fstOf ps) (sndOf ps) ∧ (∀ a, a ∈ ps → 0 ≤ a.1 ∧ a.1 ≤ 160 ∧ 1 ≤ a.2 ∧ a.2 ≤ 1001) ∧ Keeps b w w' ∧ IsDeck w' b

/-- a slice that was just laid out in a block of its own -/
theorem own_new (w : World) (e : TypeId) (x y : Value) : (w.alloc (.cells #[x, y] e)).ownsRow w.heap.size e 2 (.slice (some ⟨w.heap.size, 0, none⟩) 1 1) 1 [x, y] :=
  ⟨rfl, .inr ⟨w.heap.size, 1, #[x, y], rfl, Nat.le_refl _, heap_alloc_new w _, Nat.le_refl _, by unfold maxLen; omega, rfl, rfl⟩⟩

set_option maxRecDepth 100000 in
set_option maxHeartbeats 2000000 in
theorem indices_any (b : Nat) (w : World) (hd : IsDeck w b) :
    Calls Try.prog 25 #[.pointer (some ⟨b, 0, none⟩)] w (IdxPost b w) := by
  have HD := Lib.hid hd
  have hb := hd.lt
  obtain ⟨i0, hi0, hz0, hz1, hz2⟩ := info_parts idx_info
  have HI := Lib.hid hi0
  have HZ0 := Lib.hid hz0
  have HZ1 := Lib.hid hz1
  have HZ2 := Lib.hid hz2
  clear hd hi0 hz0 hz1 hz2
  go_enter Try.func25, Try.ntmps25
  go_wp2_with fail
  refine (upto_any b 1000 _ HD.out (by omega) (by omega)).mono ?_
  rintro e w1 ⟨v0, rfl, v1, v2, hk, hd⟩
  have HK := Lib.hid hk
  replace HD := Lib.hid hd
  have hs1 := hk.size
  clear hk hd
  go_wp2_with fail
  refine (next_any b 4 _ (HD.out.alloc _) (by omega) (by omega)).mono ?_
  rintro e w2 ⟨k0, rfl, k1, k2, hk, hd⟩
  have HO : Hid (w2.ownsRow w.heap.size 42 2 (.slice (some ⟨w1.heap.size, 0, none⟩) 1 1) 1 (cellsOf [(0, 1 + v0)])) := Lib.hid (own_keeps (by
    have := own_new w1 42 (.int .i64 0) (.int .i64 (1 + v0))
    exact ⟨this.1, by
      rcases this.2 with ⟨h, _⟩ | ⟨g, cap, cur, h1, h2, h3⟩
      · cases h
      · exact .inr ⟨g, cap, cur, h1, by omega, h3⟩⟩) hk hb)
  replace HK : Hid (Keeps b w w2) := Lib.hid ((HK.out.alloc _).trans hk)
  replace HD := Lib.hid hd
  clear hk hd
  obtain ⟨kn, rfl⟩ : ∃ n : Nat, k0 = n := ⟨k0.toNat, by omega⟩
  go_wp2_with fail
  go_loopw [3, 4] (fun v i wr => ∃ (k g c : Nat) (ps : List (Int × Int)), k + ps.length ≤ 4 ∧ 1 ≤ ps.length ∧ i = .int .i64 k ∧ v = .slice (some ⟨g, 0, none⟩) ps.length c ∧ Hid (wr.ownsRow w.heap.size 42 2 (.slice (some ⟨g, 0, none⟩) ps.length c) ps.length (cellsOf ps)) ∧ Hid (∀ a, a ∈ ps → 0 ≤ a.1 ∧ a.1 ≤ 40 * ps.length ∧ 1 ≤ a.2 ∧ a.2 ≤ 1001) ∧ Hid (Keeps b w wr) ∧ Hid (IsDeck wr b)) (fun _ i _ => (intOf i).toNat)
  case atStart => exact ⟨kn, w1.heap.size, 1, [(0, 1 + v0)], by simp; omega, by simp, rfl, rfl, HO, Lib.hid fun a ha => by simp at ha; subst ha; simp; omega, HK, HD⟩
  case round =>
    obtain ⟨k, g, c, ps, hkp, hp1, rfl, rfl, HO, HA, HK, HD⟩ := hrel
    obtain ⟨_, hfm, hgw⟩ := own_form HO.out (g0 := g) rfl
    by_cases hz : k = 0
    · subst hz
      go_wp2_with fail
      go_ret
      exact ⟨g, c, ps, rfl, hp1, by omega, by omega, hgw, Pairs.of_own HO.out, fun a ha => by have := HA.out a ha; omega, HK.out, HD.out⟩
    · have hk1 : (0 : Int) < k := by omega
      obtain ⟨m, hm⟩ : ∃ m, ps.length = m + 1 := ⟨ps.length - 1, by omega⟩
      obtain ⟨la, hla⟩ : ∃ la, fstOf ps m = la := ⟨_, rfl⟩
      have hlb := HA.out _ (last_mem ps m (by omega))
      simp only [hla] at hlb
      obtain ⟨la0, la1, _, _⟩ := hlb
      have HLA := Lib.hid hla
      have HM := Lib.hid hm
      rw [hm] at HO hkp la1 ⊢
      have hc0 := own_cell HO.out m (by omega)
      rw [hla] at hc0
      have hgl : g < wr.heap.size := cell_lt hc0
      have hw1 : IntKind.i64.wrap (m : Int) = m := by rw [IntKind.wrap_i64]; omega
      have hw2 : IntKind.i64.wrap (la + 1) = la + 1 := by rw [IntKind.wrap_i64]; omega
      have hm0 : (0 : Int) ≤ m := by omega
      have hm1 : (m : Int) < (m : Int) + 1 := by omega
      have hla160 : la ≤ 160 := by omega
      replace HO : Hid (wr.drew.ownsRow w.heap.size 42 2 (.slice (some ⟨g, 0, none⟩) (m + 1) c) (m + 1) (cellsOf ps)) := Lib.hid HO.out.drew
      replace HK : Hid (Keeps b w wr.drew) := Lib.hid (HK.out.drewN 1)
      replace HD : Hid (IsDeck wr.drew b) := Lib.hid (HD.out.drewN 1)
      clear hla hm
      go_wp2_with fail
      go_region_law (first
        | (refine step_append_lies _ (by rfl) _ _ _ (by rfl) w.heap.size 42 i0 _ 2 16 Try.underlying40 HI.out HZ0.out HZ1.out HZ2.out rfl (by omega) (.slice (some ⟨g, 0, none⟩) (m + 1) c) (m + 1) (cellsOf ps) (by rfl) (HO.out.alloc _) ⟨wy.heap.size, 0, none⟩ 1 1 [.int .i64 (la + 1 + x), .int .i64 (1 + y)] (by rfl) (by rfl) (World.news_of_block (cs := #[.int .i64 (la + 1 + x), .int .i64 (1 + y)]) (t := 42) (fr := (0, 0)) (heap_alloc_new wy _)) (by simp [Value.oneCell']) (by omega) (by unfold maxLen; omega) (by omega) (by simp; omega) (wy.heap.size + 1) (by simp) ?_; intro gg cap w4 hown hgrow hat hlt)
        | (go_simp; go_at_call 20; refine (next_any b _ _ HD.out (by omega) (by omega)).mono ?_; rintro e wx ⟨x, rfl, x0, x1, hk2, hd2⟩; replace HO := Lib.hid (own_keeps HO.out hk2 hb); replace HK := Lib.hid (HK.out.trans hk2); replace HD := Lib.hid hd2; clear hk2 hd2 hc0; have hc0 := own_cell HO.out m (by omega); rw [HLA.out] at hc0; have hwx : IntKind.i64.wrap (la + 1 + x) = la + 1 + x := (by rw [IntKind.wrap_i64]; omega))
        | (go_simp; go_at_call 19; refine (upto_any b _ _ HD.out (by omega) (by omega)).mono ?_; rintro e wy ⟨y, rfl, y0, y1, hk2, hd2⟩; replace HO := Lib.hid (own_keeps HO.out hk2 hb); replace HK := Lib.hid (HK.out.trans hk2); replace HD := Lib.hid hd2; clear hk2 hd2 hc0; have hc0 := own_cell HO.out m (by omega); rw [HLA.out] at hc0; have hwy : IntKind.i64.wrap (1 + y) = 1 + y := (by rw [IntKind.wrap_i64]; omega); have hsy := HK.out.size))
      all_goals
        have HL : Hid ((ps ++ [(la + 1 + x, 1 + y)]).length = m + 1 + 1) := Lib.hid (by rw [List.length_append, HM.out]; rfl)
        have HO2 : Hid (w4.ownsRow w.heap.size 42 2 (.slice (some ⟨gg, 0, none⟩) (m + 1 + 1) cap) (m + 1 + 1) (cellsOf (ps ++ [(la + 1 + x, 1 + y)]))) := Lib.hid (by rw [cellsOf_snoc]; exact hown)
        have HA2 : Hid (∀ a, a ∈ ps ++ [(la + 1 + x, 1 + y)] → 0 ≤ a.1 ∧ a.1 ≤ 40 * ((ps ++ [(la + 1 + x, 1 + y)]).length : Int) ∧ 1 ≤ a.2 ∧ a.2 ≤ 1001) := Lib.hid fun a ha => by
          rw [HL.out]
          rcases List.mem_append.1 ha with h | h
          · have := HA.out a h
            rw [HM.out] at this
            omega
          · simp only [List.mem_singleton] at h
            subst h
            simp only
            omega
        have HK2 : Hid (Keeps b w w4) := Lib.hid ((HK.out.alloc _).grown hgrow fun q hq => by obtain ⟨_, _, hg⟩ := own_form HO.out hq; exact hg)
        have HD2 : Hid (IsDeck w4 b) := Lib.hid ((HD.out.alloc _).below ((Below.refl (b + 1) _).grown hgrow (by simp; omega) fun q hq => by obtain ⟨_, _, hg⟩ := own_form HO.out hq; omega) (by omega))
        clear hown hgrow hat hw1 hw2 hwx hwy hc0
        go_wp2_with fail
        go_roundw
        case rel => exact ⟨k - 1, gg, cap, ps ++ [(la + 1 + x, 1 + y)], by rw [HL.out]; omega, by rw [HL.out]; omega, by congr 1; omega, by rw [HL.out], by rw [HL.out]; exact HO2, HA2, HK2, HD2⟩
        case measure => simp [intOf]; omega
end Go.Proofs.Ytigoeaidlgofoaa
