/- The law ExcessIndex: Validate and At return the specified results, for all tables. No condition. -/
import Derived.Test.YtigoeaidlgofoaaRows
import Derived.Test.YtigoeaidlgofoaaRead
import Derived.Test.YtigoeaidlgofoaaAwake22
import Derived.Test.YtigoeaidlgofoaaIdx22
import Derived.Test.YtigoeaidlgofoaaArgs2
import Derived.Deep.RegionLaw
import Derived.Deep.CutBlock
import Derived.WalkKit
import Derived.ProofKit
import Derived.OpenShut
import Derived.ShutString
import Derived.ChangeOld
import Derived.Below
namespace Go.Proofs.Ytigoeaidlgofoaa.excessIndex
open Go.ChangeShapes Go.WideShapes Go.ChangeAt Go.RowKit
set_option linter.unusedVariables false

theorem own : ownKnob Try.prog.godebug = none := by kernel_rfl
theorem laidOut : laidOutB Try.prog = true := by kernel_rfl

theorem Pairs.news {w : World} {B : Nat} {ad : Addr} {ps : List (Int × Int)} (h : Pairs w B (some ad) ps.length (fstOf ps) (sndOf ps)) : ∀ j u, (cellsOf ps)[j]? = some u → w.cell? (ad.add j) = some u := fun j u hu => by
  have hj : j < ps.length * 2 := by
    rw [← cellsOf_length]
    rcases Nat.lt_or_ge j (cellsOf ps).length with h | h
    · exact h
    · rw [List.getElem?_eq_none h] at hu; cases hu
  obtain ⟨ad', e, _, hc⟩ := Cells.get h hj
  injection e with e
  subst e
  rw [hc, ← hu, cellsOf_get ps j hj]
theorem cellsOf_int (ps : List (Int × Int)) : ∀ u ∈ cellsOf ps, ∃ z : Int, u = .int .i64 z := fun u hu => by
  unfold cellsOf at hu
  obtain ⟨a, _, h⟩ := List.mem_flatMap.1 hu
  simp only [List.mem_cons, List.not_mem_nil, or_false] at h
  rcases h with h | h
  · exact ⟨_, h⟩
  · exact ⟨_, h⟩
theorem pairs_some {w : World} {base : Nat} {e : TypeId} {n c : Nat} {A : Option Addr} {xs : List Value} (h : w.ownsRow base e 2 (.slice A n c) n xs) (hx : ∀ u ∈ xs, ∃ z : Int, u = .int .i64 z) : ∃ f g, Pairs w w.heap.size A n f g := by
  have hl := h.1
  have h' : ∀ j, ∃ z : Int, ∀ hj : j < xs.length, xs[j] = .int .i64 z := fun j => by
    by_cases hj : j < xs.length
    · obtain ⟨z, hz⟩ := hx _ (List.getElem_mem hj)
      exact ⟨z, fun _ => hz⟩
    · exact ⟨0, fun h => absurd h hj⟩
  obtain ⟨z, hz⟩ := Classical.skolem.1 h'
  have hc := Cells.of_own h (fun j => .int .i64 (z j)) hz
  refine ⟨fun j => z (2 * j), fun j => z (2 * j + 1), Cells.congr hc fun j hj => ?_⟩
  unfold pairAt
  by_cases e : j % 2 = 0
  · rw [if_pos e]
    simp only [show 2 * (j / 2) = j by omega]
  · rw [if_neg e]
    simp only [show 2 * (j / 2) + 1 = j by omega]
theorem own_lt {w : World} {base : Nat} {e : TypeId} {size n g c : Nat} {xs : List Value} (h : w.ownsRow base e size (.slice (some ⟨g, 0, none⟩) n c) n xs) : g < w.heap.size := by
  rcases h.2 with ⟨h, _⟩ | ⟨g', cap, cur, hv, hg, hh, hr⟩
  · cases h
  · injection hv with hv
    injection hv with hv
    injection hv with hv
    subst hv
    exact Has.lt (t := e) (cs := cur) hh

set_option maxHeartbeats 4000000 in
set_option maxRecDepth 100000 in
theorem walk (v0 : Value) (v1 : Value) (v2 : Value) (v3 : Value) (c4 : List Value) (w : World) (h0 : Rd40 w [v0]) (h1 : Rd3 w [v1]) (h2 : Rd22 w [v2]) (h3 : Rd3 w [v3]) (h4 : Rd42 w c4) :
    Calls Try.prog 7 #[v0, v1, v2, v3, .agg c4.toArray] w fun e w' => e = .returned (.bool true) ∧ Below w.heap.size w w' := by
  obtain ⟨A1, n1, c1, f1, g1, rfl, hn1, _, _, hp1, _⟩ := rd_index h0
  obtain ⟨hour, rfl, _, _⟩ := rd_i64 h1
  obtain ⟨A, n, c, z, rfl, hn, _, _, hc, _⟩ := rd_ints h2
  obtain ⟨at', rfl, _, _⟩ := rd_i64 h3
  obtain ⟨_, _, rfl, r0, r1⟩ := h4
  obtain ⟨x0, rfl, _, _⟩ := rd_i64 r0
  obtain ⟨x1, rfl, _, _⟩ := rd_i64 r1
  have HC := Lib.hid hc
  have HP1 := Lib.hid hp1
  clear h0 h1 h2 h3 hc hp1 r0 r1
  by_cases hl1 : 150 < n1
  · go_enter Try.func7, Try.ntmps7
    go_wp2_with (first | (go_at_call 16; refine (awake22_any _).mono ?_; rintro e w9 ⟨rfl, hb9⟩))
    go_ret
    exact ⟨rfl, (Below.refl _ _).alloc (Nat.le_refl _) _ |>.trans (hb9.mono (by simp))⟩
  have hl1' : n1 ≤ 150 := by omega
  clear hl1
  obtain ⟨i0, hi0, hz0, hz1, hz2⟩ := info_parts idx_info
  have HI := Lib.hid hi0
  have HZ0 := Lib.hid hz0
  have HZ1 := Lib.hid hz1
  have HZ2 := Lib.hid hz2
  clear hi0 hz0 hz1 hz2
  obtain ⟨⟨s1, t1⟩, hs1⟩ : ∃ s, Ex.at' n1 f1 g1 hour = s := ⟨_, rfl⟩
  obtain ⟨e1, he1⟩ : ∃ s, Ex.ierr n1 f1 g1 = s := ⟨_, rfl⟩
  have C1 : Hid (∀ W : World, Below w.heap.size w W → Calls Try.prog 23 #[.slice A1 n1 c1, .int .i64 hour] W (PairPost (s1, t1) W)) := Lib.hid fun W hb => by
    have := exat_any A1 n1 c1 f1 g1 hour W hn1 ((HP1.out.below hb).mono hb.size)
    rw [hs1] at this
    exact this
  have C2 : Hid (∀ W : World, Below w.heap.size w W → Calls Try.prog 24 #[.slice A1 n1 c1, .int .i64 hour] W (PairPost (s1, t1) W)) := Lib.hid fun W hb => by
    have := rindexat_any A1 n1 c1 f1 g1 hour W hn1 ((HP1.out.below hb).mono hb.size)
    rw [hs1] at this
    exact this
  have C3 : Hid (∀ W : World, Below w.heap.size w W → Calls Try.prog 27 #[.slice A1 n1 c1] W (IntPost e1 W)) := Lib.hid fun W hb => by
    have := exvalidate_any A1 n1 c1 f1 g1 W hn1 ((HP1.out.below hb).mono hb.size)
    rw [he1] at this
    exact this
  have C4 : Hid (∀ W : World, Below w.heap.size w W → Calls Try.prog 28 #[.slice A1 n1 c1] W (IntPost e1 W)) := Lib.hid fun W hb => by
    have := rindices_any A1 n1 c1 f1 g1 W hn1 ((HP1.out.below hb).mono hb.size)
    rw [he1] at this
    exact this
  clear hs1 he1 HP1
  have HB := Lib.hid ((Below.refl w.heap.size w).alloc (Nat.le_refl _) (.cells #[.int .i64 x0, .int .i64 x1] 42))
  have HX := Lib.hid (Has.new w #[.int .i64 x0, .int .i64 x1] 42)
  go_enter Try.func7, Try.ntmps7
  go_wp2_with fail
  refine (C1.out _ HB.out).mono ?_
  rintro e w1 ⟨rfl, hb⟩
  replace HX := Lib.hid (HX.out.below hb HX.out.lt)
  replace HB : Hid (Below w.heap.size w w1) := Lib.hid (HB.out.trans (hb.mono HB.out.size))
  clear hb
  go_wp2_with fail
  refine (C2.out _ HB.out).mono ?_
  rintro e w2 ⟨rfl, hb⟩
  replace HX := Lib.hid (HX.out.below hb HX.out.lt)
  replace HB : Hid (Below w.heap.size w w2) := Lib.hid (HB.out.trans (hb.mono HB.out.size))
  clear hb C1 C2
  have hz2 := HB.out.size
  have hx2 := HX.out.lt
  go_wp2_with fail
  refine (deck_new A n c z w2 hn ((HC.out.below HB.out).mono hz2)).mono ?_
  rintro e w3 ⟨rfl, hb, hd⟩
  replace HX := Lib.hid (HX.out.below hb HX.out.lt)
  replace HB : Hid (Below w.heap.size w w3) := Lib.hid (HB.out.trans (hb.mono HB.out.size))
  have HD := Lib.hid hd
  clear hb hd HC
  go_wp2_with fail
  refine (indices_any _ _ HD.out).mono ?_
  rintro e w4 ⟨g3, c3, ps, rfl, hl3, hl3', hg3, hg3', hp3, hps, hk2, hd2⟩
  replace HX := Lib.hid (HX.out.keeps hk2 (by omega))
  replace HB : Hid (Below w.heap.size w w4) := Lib.hid (HB.out.trans (hk2.below (by omega) HB.out.size))
  replace HD := Lib.hid hd2
  have HP3 := Lib.hid hp3
  have HPS := Lib.hid hps
  clear hk2 hd2 hp3 hps
  go_wp2_with fail
  refine (next_any _ 200 _ HD.out (by omega) (by omega)).mono ?_
  rintro e w5 ⟨k5, rfl, k50, k51, hk2, hd2⟩
  replace HX := Lib.hid (HX.out.keeps hk2 (by omega))
  replace HB : Hid (Below w.heap.size w w5) := Lib.hid (HB.out.trans (hk2.below (by omega) HB.out.size))
  replace HP3 := Lib.hid (HP3.out.keeps_ne hk2 fun ad h => by injection h with h; subst h; exact hg3)
  clear hk2 hd2 HD
  obtain ⟨m3, hm3⟩ : ∃ m, ps.length = m := ⟨_, rfl⟩
  have HM := Lib.hid hm3
  rw [hm3] at hl3 hl3' HP3 ⊢
  clear hm3
  obtain ⟨⟨s2, t2⟩, hs2⟩ : ∃ s, Ex.at' m3 (fstOf ps) (sndOf ps) (k5 - 3) = s := ⟨_, rfl⟩
  have HS2 := Lib.hid hs2
  clear hs2
  go_wp2_with fail
  refine (exat_any (some ⟨g3, 0, none⟩) m3 c3 (fstOf ps) (sndOf ps) _ w5 (by omega) HP3.out).mono ?_
  rw [HS2.out]
  rintro e w6 ⟨rfl, hb⟩
  replace HX := Lib.hid (HX.out.below hb HX.out.lt)
  replace HB : Hid (Below w.heap.size w w6) := Lib.hid (HB.out.trans (hb.mono HB.out.size))
  replace HP3 := Lib.hid ((HP3.out.below hb).mono hb.size)
  clear hb
  go_wp2_with fail
  refine (rindexat_any (some ⟨g3, 0, none⟩) m3 c3 (fstOf ps) (sndOf ps) _ w6 (by omega) HP3.out).mono ?_
  rw [HS2.out]
  rintro e w7 ⟨rfl, hb⟩
  replace HX := Lib.hid (HX.out.below hb HX.out.lt)
  replace HB : Hid (Below w.heap.size w w7) := Lib.hid (HB.out.trans (hb.mono HB.out.size))
  replace HP3 := Lib.hid ((HP3.out.below hb).mono hb.size)
  clear hb HS2
  have HN7 : Hid (∀ j u, (cellsOf ps)[j]? = some u → w7.cell? ((⟨g3, 0, none⟩ : Addr).add j) = some u) := Lib.hid (Pairs.news (B := w7.heap.size) (by rw [HM.out]; exact HP3.out))
  have hz7 := HB.out.size
  have hg7 : g3 < w7.heap.size := by
    obtain ⟨b, o, e, hb, _⟩ := HP3.out.get (j := 0) (by omega)
    injection e with e
    injection e with e
    omega
  have HLc : Hid ((cellsOf ps).length = m3 * 2) := Lib.hid (by rw [cellsOf_length, HM.out])
  go_wp2_with ((at_builtin; refine wpList_append_lies _ rfl _ _ 40 rfl w7.heap.size 42 i0 _ 2 16 Try.underlying40 HI.out HZ0.out HZ1.out HZ2.out rfl (by omega) (.slice (some ⟨w7.heap.size, 0, none⟩) 0 0) 0 [] rfl (own_empty w7 _ _) ⟨g3, 0, none⟩ m3 c3 (cellsOf ps) rfl HLc.out (fun j u hu => (World.cell?_alloc_lt w7 _ _ (by rw [add_block]; exact hg7)).trans (HN7.out j u hu)) (fun u hu => by obtain ⟨z, rfl⟩ := cellsOf_int ps u hu; rfl) (by omega) (by unfold maxLen; omega) (by omega) (by simp) (w7.heap.size + 1) (by simp) ?_; intro g cap w8 hown hgrow hat hlt))
  simp only [Nat.zero_add, List.nil_append] at hown
  have HB8 : Hid (Below w.heap.size w w8) := Lib.hid ((HB.out.alloc hz7 _).grown hgrow (by simp; omega) (fun k hk => by simp [Value.ownBlock] at hk; omega))
  have HX8 : Hid (Has w8 w.heap.size #[.int .i64 x0, .int .i64 x1] 42) := Lib.hid ((hgrow.block w.heap.size (by simp; omega) (fun e => by simp [Value.ownBlock] at e; have := HX.out.lt; omega)).trans (HX.out.alloc _))
  have hb8 : Below w7.heap.size w7 w8 := ((Below.refl _ _).alloc (Nat.le_refl _) _).grown hgrow (by simp) (fun k hk => by simp [Value.ownBlock] at hk; omega)
  have HP8 := Lib.hid (HP3.out.below hb8)
  have hg8 : w7.heap.size ≤ g := by
    rcases hat with h | h
    · simp [Value.ownBlock] at h; omega
    · omega
  have HO8 := Lib.hid hown
  clear hown hgrow hat hb8 HX HB HP3 HN7
  obtain ⟨k, hk⟩ : ∃ k : Nat, Am.within at' m3 = k := ⟨(Am.within at' m3).toNat, by have := Am.within_bound at' m3 (by omega); omega⟩
  have hkm : k < m3 := by have := Am.within_bound at' m3 (by omega); omega
  have HW := Lib.hid hk
  clear hk
  obtain ⟨v0, v1, v2⟩ := HX8.out.rules
  have hk0 : (0 : Int) ≤ k := by omega
  have hk1 : (k : Int) < m3 := by omega
  have hc0 := HO8.out.cellAt (k * 2) (by omega)
  have hc1 := HO8.out.cellAt (k * 2 + 1) (by omega)
  rw [cellsOf_get ps _ (by rw [HM.out]; omega)] at hc0 hc1
  have hf0 := HO8.out.frozenAt (k * 2)
  have hf1 := HO8.out.frozenAt (k * 2 + 1)
  obtain ⟨y0, hy0⟩ : ∃ y, pairAt (fstOf ps) (sndOf ps) (k * 2) = y := ⟨_, rfl⟩
  obtain ⟨y1, hy1⟩ : ∃ y, pairAt (fstOf ps) (sndOf ps) (k * 2 + 1) = y := ⟨_, rfl⟩
  rw [hy0] at hc0
  rw [hy1] at hc1
  clear hy0 hy1
  go_cut [] (fun wx => ∃ xs, wx.ownsRow w7.heap.size 42 2 (.slice (some ⟨g, 0, none⟩) m3 cap) m3 xs ∧ (∀ u ∈ xs, ∃ z : Int, u = .int .i64 z) ∧ Below w.heap.size w wx ∧ Pairs wx wx.heap.size (some ⟨g3, 0, none⟩) m3 (fstOf ps) (sndOf ps))
  case first =>
    go_region_law (first | (go_simp; go_at_call 26; refine (within_any _ _ _ (by omega) (by omega)).mono ?_; rintro e w' ⟨rfl, rfl⟩; rw [HW.out]))
    all_goals
      go_wp2_with fail
      go_meet
      case rel =>
        refine ⟨_, ((HO8.out.stored (k * 2) (.int .i64 x0)).1.stored (k * 2 + 1) (.int .i64 x1)).1.drew, fun u hu => ?_, ((HB8.out.setCell (by simp only; omega) _).setCell (by simp only; omega) _).drew, ?_⟩
        · rcases List.mem_or_eq_of_mem_set hu with hu | rfl
          · rcases List.mem_or_eq_of_mem_set hu with hu | rfl
            · exact cellsOf_int ps u hu
            · exact ⟨_, rfl⟩
          · exact ⟨_, rfl⟩
        · have := (Cells.setCell (Cells.setCell (p := ⟨g, k * 2, none⟩) HP8.out hg8 (.int .i64 x0)) (p := ⟨g, k * 2 + 1, none⟩) hg8 (.int .i64 x1)).drewN 1
          exact this.mono (by have := HB8.out.size; simp; omega)
  case rest =>
    obtain ⟨xs, ho, hxi, hbx, hpx⟩ := hcut
    have HO := Lib.hid ho
    have HB := Lib.hid hbx
    have HP3 := Lib.hid hpx
    obtain ⟨f4, g4, hp4⟩ := pairs_some ho hxi
    have HP4 := Lib.hid hp4
    clear ho hxi hbx hpx hp4 HO8 HB8 HP8 HX8 v0 v1 v2 hc0 hc1 hf0 hf1
    have HN : Hid (∀ j u, (cellsOf ps)[j]? = some u → wc.cell? ((⟨g3, 0, none⟩ : Addr).add j) = some u) := Lib.hid (Pairs.news (B := wc.heap.size) (by rw [HM.out]; exact HP3.out))
    have hz8 := HB.out.size
    have hgc : g < wc.heap.size := own_lt HO.out
    obtain ⟨mm, rfl⟩ : ∃ m, m3 = m + 1 := ⟨m3 - 1, by omega⟩
    have hg3c : g3 < wc.heap.size := by omega
    obtain ⟨_, _, e3, _, hc0, _⟩ := HP3.out.get (j := mm) (by omega)
    simp only [Option.some.injEq, Addr.mk.injEq, and_true] at e3
    obtain ⟨rfl, rfl⟩ := e3
    rw [Nat.zero_add] at hc0
    obtain ⟨la, hla⟩ : ∃ la, fstOf ps mm = la := ⟨_, rfl⟩
    have hlb := HPS.out _ (last_mem ps mm (by rw [HM.out]; omega))
    rw [hla] at hc0
    simp only [hla] at hlb
    obtain ⟨la0, la1, _, _⟩ := hlb
    obtain ⟨k3, hk3⟩ : ∃ k : Int, Am.within at' 3 = k := ⟨_, rfl⟩
    have hk3b := Am.within_bound at' 3 (by omega)
    rw [hk3] at hk3b
    obtain ⟨hk30, hk31⟩ := hk3b
    have HW3 := Lib.hid hk3
    have hw1 : IntKind.i64.wrap (mm : Int) = mm := by rw [IntKind.wrap_i64]; omega
    have hw2 : IntKind.i64.wrap (la + k3) = la + k3 := by rw [IntKind.wrap_i64]; omega
    have hw3 : IntKind.i64.wrap (la + k3 - 1) = la + k3 - 1 := by rw [IntKind.wrap_i64]; omega
    have hm0 : (0 : Int) ≤ mm := by omega
    have hm1 : (mm : Int) < (mm : Int) + 1 := by omega
    clear hla hk3
    go_wp2_with fail
    go_cut [23] (fun o wx => ∃ g5 c5 f5 g5', o = .slice (some ⟨g5, 0, none⟩) (mm + 1 + 1) c5 ∧ Pairs wx wx.heap.size (some ⟨g5, 0, none⟩) (mm + 1 + 1) f5 g5' ∧ Below w.heap.size w wx ∧ Pairs wx wx.heap.size (some ⟨g, 0, none⟩) (mm + 1) f4 g4)
    case first =>
      go_region_law (first
        | (refine step_append_lies _ (by rfl) _ _ _ (by rfl) wc.heap.size 42 i0 _ 2 16 Try.underlying40 HI.out HZ0.out HZ1.out HZ2.out rfl (by omega) (.slice (some ⟨wc.heap.size, 0, none⟩) 0 0) 0 [] (by rfl) (own_empty wc.drew _ _) ⟨g3, 0, none⟩ (mm + 1) c3 (cellsOf ps) (by rfl) HLc.out (fun j u hu => (World.cell?_alloc_lt wc.drew _ _ (by rw [add_block]; exact hg3c)).trans (HN.out j u hu)) (fun u hu => by obtain ⟨z, rfl⟩ := cellsOf_int ps u hu; rfl) (by omega) (by unfold maxLen; omega) (by omega) (by simp) (wc.heap.size + 1) (by simp) ?_; intro gg cap9 w9 hown hgrow hat hlt9; simp only [Nat.zero_add, List.nil_append] at hown; have HO9 := Lib.hid hown; have HB9 : Hid (Below wc.heap.size wc w9) := Lib.hid (((Below.refl wc.heap.size wc).drew.alloc (Nat.le_refl _) _).grown hgrow (by simp) (fun q hq => by simp [Value.ownBlock] at hq; omega)); have hc9 : w9.cell? ⟨g3, mm * 2, none⟩ = some (.int .i64 la) := (HB9.out.cell hg3c).trans hc0; have hz9 := HB9.out.size; clear hown hgrow hat)
        | (refine step_append_lies _ (by rfl) _ _ _ (by rfl) wc.heap.size 42 i0 _ 2 16 Try.underlying40 HI.out HZ0.out HZ1.out HZ2.out rfl (by omega) (.slice (some ⟨gg, 0, none⟩) (mm + 1) cap9) (mm + 1) (cellsOf ps) (by rfl) (HO9.out.alloc _) ⟨w9.heap.size, 0, none⟩ 1 1 [.int .i64 (la + k3 - 1), .int .i64 1] (by rfl) (by rfl) (World.news_of_block (cs := #[.int .i64 (la + k3 - 1), .int .i64 1]) (t := 42) (fr := (0, 0)) (heap_alloc_new w9 _)) (by simp [Value.oneCell']) (by omega) (by unfold maxLen; omega) (by omega) (by simp; omega) (w9.heap.size + 1) (by simp) ?_; intro gh cap10 w10 hown hgrow hat hlt10)
        | (go_simp; go_at_call 26; refine (within_any _ _ _ (by omega) (by omega)).mono ?_; rintro e w' ⟨rfl, rfl⟩; rw [HW3.out]))
      all_goals
        have hb10 : Below wc.heap.size wc w10 := (HB9.out.alloc hz9 _).grown hgrow (by simp; omega) (fun q hq => by obtain ⟨_, _, hg⟩ := own_form HO9.out hq; exact hg)
        obtain ⟨f5, g5, hp5⟩ := pairs_some hown (fun u hu => by
          rcases List.mem_append.1 hu with hu | hu
          · exact cellsOf_int ps u hu
          · simp only [List.mem_cons, List.not_mem_nil, or_false] at hu
            rcases hu with rfl | rfl <;> exact ⟨_, rfl⟩)
        have HP5 := Lib.hid hp5
        have HB10 := Lib.hid hb10
        clear hown hgrow hat hp5 hb10
        go_wp2_with fail
        go_meet
        case rel => exact ⟨gh, cap10, f5, g5, rfl, HP5.out, HB.out.trans (HB10.out.mono hz8), (HP4.out.below HB10.out).mono HB10.out.size⟩
    case rest =>
      obtain ⟨g5, c5, f5, g5', rfl, hp5, hb, hp4⟩ := hcut
      clear HB HP3 HP4 HO HN hc0
      obtain ⟨e4, he4⟩ : ∃ s, Ex.ierr (mm + 1) f4 g4 = s := ⟨_, rfl⟩
      obtain ⟨e5, he5⟩ : ∃ s, Ex.ierr (mm + 1 + 1) f5 g5' = s := ⟨_, rfl⟩
      have D3 : Hid (∀ W : World, Below wc.heap.size wc W → Calls Try.prog 27 #[.slice (some ⟨g, 0, none⟩) (mm + 1) cap] W (IntPost e4 W)) := Lib.hid fun W hb => by
        have := exvalidate_any (some ⟨g, 0, none⟩) (mm + 1) cap f4 g4 W (by omega) ((hp4.below hb).mono hb.size)
        rw [he4] at this
        exact this
      have D4 : Hid (∀ W : World, Below wc.heap.size wc W → Calls Try.prog 28 #[.slice (some ⟨g, 0, none⟩) (mm + 1) cap] W (IntPost e4 W)) := Lib.hid fun W hb => by
        have := rindices_any (some ⟨g, 0, none⟩) (mm + 1) cap f4 g4 W (by omega) ((hp4.below hb).mono hb.size)
        rw [he4] at this
        exact this
      have D5 : Hid (∀ W : World, Below wc.heap.size wc W → Calls Try.prog 27 #[.slice (some ⟨g5, 0, none⟩) (mm + 1 + 1) c5] W (IntPost e5 W)) := Lib.hid fun W hb => by
        have := exvalidate_any (some ⟨g5, 0, none⟩) (mm + 1 + 1) c5 f5 g5' W (by omega) ((hp5.below hb).mono hb.size)
        rw [he5] at this
        exact this
      have D6 : Hid (∀ W : World, Below wc.heap.size wc W → Calls Try.prog 28 #[.slice (some ⟨g5, 0, none⟩) (mm + 1 + 1) c5] W (IntPost e5 W)) := Lib.hid fun W hb => by
        have := rindices_any (some ⟨g5, 0, none⟩) (mm + 1 + 1) c5 f5 g5' W (by omega) ((hp5.below hb).mono hb.size)
        rw [he5] at this
        exact this
      have HB := Lib.hid hb
      have hzd := hb.size
      have HE := Lib.hid (Below.refl wc.heap.size wc)
      clear hb hp4 hp5 he4 he5
      go_wp2_with fail
      refine (C3.out _ (HB.out.trans (HE.out.mono hzd))).mono ?_
      rintro e w11 ⟨rfl, hb⟩
      replace HE : Hid (Below wc.heap.size wc w11) := Lib.hid (HE.out.trans (hb.mono HE.out.size))
      clear hb
      go_wp2_with fail
      refine (C4.out _ (HB.out.trans (HE.out.mono hzd))).mono ?_
      rintro e w12 ⟨rfl, hb⟩
      replace HE : Hid (Below wc.heap.size wc w12) := Lib.hid (HE.out.trans (hb.mono HE.out.size))
      clear hb
      go_wp2_with fail
      refine (D3.out _ HE.out).mono ?_
      rintro e w13 ⟨rfl, hb⟩
      replace HE : Hid (Below wc.heap.size wc w13) := Lib.hid (HE.out.trans (hb.mono HE.out.size))
      clear hb
      go_wp2_with fail
      refine (D4.out _ HE.out).mono ?_
      rintro e w14 ⟨rfl, hb⟩
      replace HE : Hid (Below wc.heap.size wc w14) := Lib.hid (HE.out.trans (hb.mono HE.out.size))
      clear hb
      go_wp2_with fail
      refine (D5.out _ HE.out).mono ?_
      rintro e w15 ⟨rfl, hb⟩
      replace HE : Hid (Below wc.heap.size wc w15) := Lib.hid (HE.out.trans (hb.mono HE.out.size))
      clear hb
      go_wp2_with fail
      refine (D6.out _ HE.out).mono ?_
      rintro e w16 ⟨rfl, hb⟩
      replace HE : Hid (Below w.heap.size w w16) := Lib.hid (HB.out.trans ((HE.out.trans (hb.mono HE.out.size)).mono hzd))
      clear hb
      go_wp2_with (first | (go_at_call 16; refine (awake22_any _).mono ?_; rintro e w9 ⟨rfl, hb9⟩))
      go_ret
      exact ⟨rfl, HE.out.trans (hb9.mono HE.out.size)⟩

set_option maxRecDepth 100000 in
theorem lifted (os : Os) (started : os.Started) (H : Type) (enc : TypeId × Value → H) :
    ReturnsInHanded {} Try.checked os 7 .any (Rows.excessIndexSpec.pre6 enc Try.prog Try.f7 Rows.excessIndexRow.domain false) (Rows.excessIndexSpec.post enc Try.prog Try.f7 false true false false) := by
  refine returnsInHanded_of_change (C := Try.checked) own started (by kernel_rfl) Try.func7
    (ChangeSpec.witness6 (enc := enc) (C := Try.checked) false ⟨#[], #[.slice none 0 0, .int .i64 0, .slice none 0 0, .int .i64 0, .agg #[.int .i64 0, .int .i64 0]], []⟩ 8 (by kernel_rfl) (by kernel_rfl) (by kernel_rfl) (by kernel_rfl)) ?_
  intro W base args ds gs before hval0 hW hcnd _
  have hval : ∀ (j : Nat) t v, Try.f7.params[j]? = some t → args[j]? = some v → Value.okWide Try.prog W .any base t v := hval0
  have hW' := hW
  obtain ⟨p, q, hA0, hV, rfl, hfz, hnd⟩ := hW
  have hA : DataW.TrodAll enc Try.prog W 0 (fun _ => true) true Try.f7.params.toList args.toList ds p := hA0
  rw [Try.params7] at hA hval
  obtain ⟨v0, vs0, d0, ds0, p0, q0, hargs, rfl, rfl, h0, r0⟩ := trodAll_cons hA
  obtain ⟨v1, vs1, d1, ds1, p1, q1, rfl, rfl, rfl, h1, r1⟩ := trodAll_cons r0
  obtain ⟨v2, vs2, d2, ds2, p2, q2, rfl, rfl, rfl, h2, r2⟩ := trodAll_cons r1
  obtain ⟨v3, vs3, d3, ds3, p3, q3, rfl, rfl, rfl, h3, r3⟩ := trodAll_cons r2
  obtain ⟨v4, vs4, d4, ds4, p4, q4, rfl, rfl, rfl, h4, r4⟩ := trodAll_cons r3
  obtain ⟨rfl, rfl, rfl⟩ := trodAll_nil r4
  obtain rfl : args = #[v0, v1, v2, v3, v4] := by cases args; simp_all
  obtain ⟨rfl, rfl⟩ := trodVars_none hV
  have k0 := h0
  have lt0 : ∀ x ∈ p0, x.block < W.heap.size := by obtain ⟨m, hm⟩ := k0; exact DataW.trod_lt m _ _ _ hm
  obtain ⟨a0, len0, cap0, rfl⟩ := okWide_slice Try.underlying40 (hval 0 40 v0 rfl rfl)
  have r100 : Rd40 W [.slice a0 len0 cap0] := by obtain ⟨fuel, hf⟩ := h0; exact rd40 hf
  have k1 := h1
  have lt1 : ∀ x ∈ p1, x.block < W.heap.size := by obtain ⟨m, hm⟩ := k1; exact DataW.trod_lt m _ _ _ hm
  obtain ⟨a1, rfl⟩ := okWide_int Try.underlying3 (hval 1 3 v1 rfl rfl)
  have r101 : Rd3 W [.int .i64 a1] := by obtain ⟨fuel, hf⟩ := h1; exact rd3 hf
  have k2 := h2
  have lt2 : ∀ x ∈ p2, x.block < W.heap.size := by obtain ⟨m, hm⟩ := k2; exact DataW.trod_lt m _ _ _ hm
  obtain ⟨a2, len2, cap2, rfl⟩ := okWide_slice Try.underlying22 (hval 2 22 v2 rfl rfl)
  have r102 : Rd22 W [.slice a2 len2 cap2] := by obtain ⟨fuel, hf⟩ := h2; exact rd22 hf
  have k3 := h3
  have lt3 : ∀ x ∈ p3, x.block < W.heap.size := by obtain ⟨m, hm⟩ := k3; exact DataW.trod_lt m _ _ _ hm
  obtain ⟨a3, rfl⟩ := okWide_int Try.underlying3 (hval 3 3 v3 rfl rfl)
  have r103 : Rd3 W [.int .i64 a3] := by obtain ⟨fuel, hf⟩ := h3; exact rd3 hf
  have k4 := h4
  have lt4 : ∀ x ∈ p4, x.block < W.heap.size := by obtain ⟨m, hm⟩ := k4; exact DataW.trod_lt m _ _ _ hm
  obtain ⟨⟨c4⟩, rfl, _⟩ := okWide_struct Try.underlying42 (hval 4 42 v4 rfl rfl)
  have r104 : Rd42 W c4 := by obtain ⟨fuel, hf⟩ := h4; exact rd42 hf
  clear hA0 hval0
  refine (walk _ _ _ _ c4 W r100 r101 r102 r103 r104).mono fun e W' ⟨he, bel⟩ => ?_
  subst he
  exact ⟨_, rfl, _, _, _, [], _, [], hW', trodAll_mk1 (shut_bool Try.underlying4 _), (trodAll_cons_mk (Below.trod laidOut (by kernel_rfl) (of_decide_eq_true (by kernel_rfl)) k0 bel lt0) (trodAll_cons_mk (Below.trod laidOut (by kernel_rfl) (of_decide_eq_true (by kernel_rfl)) k1 bel lt1) (trodAll_cons_mk (Below.trod laidOut (by kernel_rfl) (of_decide_eq_true (by kernel_rfl)) k2 bel lt2) (trodAll_cons_mk (Below.trod laidOut (by kernel_rfl) (of_decide_eq_true (by kernel_rfl)) k3 bel lt3) (trodAll_cons_mk (Below.trod laidOut (by kernel_rfl) (of_decide_eq_true (by kernel_rfl)) k4 bel lt4) trodAll_mk0))))), rfl, bel.frame _, fun h => by cases h⟩

theorem over : Rows.excessIndexRow.holds Try.pinned (OpenSpec.ofChange Rows.excessIndexSpec) :=
  OpenClaim.holds_of_wide 7 Try.f7 rfl rfl rfl rfl rfl rfl rfl ⟨rfl, rfl, rfl, rfl, rfl⟩ rfl rfl rfl rfl rfl (by kernel_rfl) Try.func7 (by kernel_rfl)
    (of_decide_eq_true (by kernel_rfl)) (by unfold Func.isWrapper; first | (rw [if_pos (by decide +kernel)]; kernel_rfl) | (rw [if_neg (by decide +kernel)]; exact ⟨rfl, rfl⟩))
    (fun os started H enc _ => lifted os started H enc)

/-- the statement -/
theorem proved : Rows.ExcessIndexSaid := over
#print axioms proved
end Go.Proofs.Ytigoeaidlgofoaa.excessIndex
