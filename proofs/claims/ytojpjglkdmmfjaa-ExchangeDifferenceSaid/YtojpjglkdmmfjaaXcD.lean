/- The sanity check of the laws of layer 4, and the table of rates that the deck makes. -/
import Derived.Test.YtojpjglkdmmfjaaXcC
import Derived.Test.YtojpjglkdmmfjaaDeck
import Derived.Test.YtojpjglkdmmfjaaLeav
import Derived.Deep.AppendLies
import Derived.KernelRfl
namespace Go.Proofs.Ytojpjglkdmmfjaa
open Go.RowKit
set_option linter.unusedVariables false

theorem aw4_verr : Xc.verr 1 (t3At [⟨1, 0, 2500000⟩]) = 0 := by decide +kernel
theorem aw4_at1 : Xc.at1 1 (t3At [⟨1, 0, 2500000⟩]) 1 0 = (2500000, 0) := by decide +kernel
theorem aw4_at0 : Xc.at1 1 (t3At [⟨1, 0, 2500000⟩]) 0 0 = (1000000, 0) := by decide +kernel
theorem aw4_md : Am.md 3 2500000 1000000 4 = (8, 0) := by decide +kernel

set_option maxHeartbeats 1000000 in
theorem awake4_any (w : World) : Calls Try.prog 14 #[] w fun e w' => e = .returned (.bool true) ∧ Below w.heap.size w w' := by
  go_enter Try.func14, Try.ntmps14
  go_wp2_with fail
  refine (xconvert_fine _ 1 1 (t3At [⟨1, 0, 2500000⟩]) 1 3 0 0 2500000 1000000 _ (by omega) (Trips.of_has (Has.new w _ _) ?_) aw4_verr (by decide +kernel) (by decide) (by decide) (by decide) (by decide) aw4_at1 aw4_at0).mono ?_
  · intro j hj
    rcases (show j = 0 ∨ j = 1 ∨ j = 2 by omega) with rfl | rfl | rfl <;> rfl
  rw [aw4_md]
  rintro e w1 ⟨rfl, hb⟩
  have HB : Hid (Below w.heap.size w w1) := Lib.hid (((Below.refl w.heap.size w).alloc (Nat.le_refl _) _).trans (hb.mono (by simp)))
  clear hb
  go_wp2_with fail
  go_ret
  exact ⟨rfl, HB.out⟩

set_option maxRecDepth 100000 in
theorem rate_info : (Try.prog.info? 24).map (fun i => (i.zero, i.size, i.bytes)) = some (some (.agg #[.int .i64 0, .int .i64 0, .int .i64 0]), 3, 24) := by kernel_rfl

/-- a list of rates, after which one of currency c from an hour on may follow -/
structure Xc.Good (c from' : Int) (l : List T3) : Prop where
  el : ∀ x ∈ l, Xc.cuP x ∧ Xc.puP x ∧ (x.a < c ∨ x.a = c ∧ x.b < from')
  so : ∀ i, 0 < i → i < l.length → Xc.aft (t3At l (i - 1)) (t3At l i)
theorem Xc.t3At_old (l : List T3) (x : T3) (j : Nat) (h : j < l.length) : t3At (l ++ [x]) j = t3At l j := by
  unfold t3At
  simp [List.getD, List.getElem?_append_left h]
theorem Xc.t3At_new (l : List T3) (x : T3) : t3At (l ++ [x]) l.length = x := by
  unfold t3At
  simp [List.getD]
theorem Xc.t3At_mem (l : List T3) (j : Nat) (h : j < l.length) : t3At l j ∈ l := by
  have e : l.getD j ⟨0, 0, 0⟩ = l[j] := by simp [List.getD, List.getElem?_eq_getElem h]
  unfold t3At
  rw [e]
  exact List.getElem_mem h
theorem Xc.Good.add {c fr fr' p : Int} {l : List T3} (h : Xc.Good c fr l) (hc : 1 ≤ c ∧ c ≤ 15) (hf : Xc.hourP fr) (hp : 1 ≤ p ∧ p ≤ 1000000000) (hff : fr < fr') : Xc.Good c fr' (l ++ [⟨c, fr, p⟩]) := by
  refine ⟨fun x hx => ?_, fun i h0 hi => ?_⟩
  · rcases List.mem_append.1 hx with e | e
    · obtain ⟨h1, h2, h3⟩ := h.el x e
      exact ⟨h1, h2, by omega⟩
    · rw [List.mem_singleton] at e
      subst e
      exact ⟨hc, ⟨hf, hp⟩, .inr ⟨rfl, hff⟩⟩
  · rw [List.length_append, List.length_singleton] at hi
    by_cases e : i = l.length
    · subst e
      rw [Xc.t3At_old _ _ _ (by omega), Xc.t3At_new]
      obtain ⟨h1, h2, h3⟩ := h.el _ (Xc.t3At_mem l (l.length - 1) (by omega))
      unfold Xc.aft
      simp only
      split <;> omega
    · rw [Xc.t3At_old _ _ _ (by omega), Xc.t3At_old _ _ _ (by omega)]
      exact h.so i h0 (by omega)
theorem Xc.Good.next {c fr : Int} {l : List T3} (h : Xc.Good c fr l) : Xc.Good (c + 1) 0 l :=
  ⟨fun x hx => by obtain ⟨h1, h2, h3⟩ := h.el x hx; exact ⟨h1, h2, by omega⟩, h.so⟩
theorem Xc.Good.verr {c fr : Int} {l : List T3} (h : Xc.Good c fr l) (hl : l.length ≤ 200) : Xc.verr l.length (t3At l) = 0 :=
  Xc.verr_of hl (fun i hi => by obtain ⟨h1, h2, _⟩ := h.el _ (Xc.t3At_mem l i hi); exact ⟨h1, h2⟩) h.so

/-- what Rates returns -/
def RatesPost (b : Nat) (w : World) (e : Ending) (w' : World) : Prop := ∃ (g c : Nat) (l : List T3) (cu fr : Int), e = .returned (.slice (some ⟨g, 0, none⟩) l.length c) ∧ 1 ≤ l.length ∧ l.length ≤ 9 ∧ g ≠ b ∧ w.heap.size ≤ g ∧
  Trips w' w'.heap.size (some ⟨g, 0, none⟩) l.length (t3At l) ∧ Xc.Good cu fr l ∧ Keeps b w w' ∧ IsDeck w' b

theorem own_some {w : World} {base : Nat} {e : TypeId} {n size : Nat} {v : Value} {xs : List Value} (h : w.ownsRow base e size v n xs) (hn : 1 ≤ n) : ∃ g c, v = .slice (some ⟨g, 0, none⟩) n c ∧ base ≤ g := by
  rcases h.2 with ⟨_, h0⟩ | ⟨g, cap, cur, hv, hg, _⟩
  · omega
  · exact ⟨g, cap, hv, hg⟩

set_option maxRecDepth 100000 in
set_option maxHeartbeats 2000000 in
theorem drates_any (b : Nat) (w : World) (hd : IsDeck w b) :
    Calls Try.prog 10 #[.pointer (some ⟨b, 0, none⟩)] w (RatesPost b w) := by
  have HD := Lib.hid hd
  have hb := hd.lt
  obtain ⟨i0, hi0, hz0, hz1, hz2⟩ := info_parts rate_info
  have HI := Lib.hid hi0
  have HZ0 := Lib.hid hz0
  have HZ1 := Lib.hid hz1
  have HZ2 := Lib.hid hz2
  clear hd hi0 hz0 hz1 hz2
  go_enter Try.func10, Try.ntmps10
  go_wp2_with fail
  go_loopw [3, 4, 5, 6] (fun v cc _ _ wr => ∃ (c : Nat) (l : List T3), 1 ≤ c ∧ c ≤ 4 ∧ l.length ≤ 3 * (c - 1) ∧ (c - 1) ≤ l.length ∧ cc = .int .i64 c ∧ Hid (wr.ownsRow w.heap.size 24 3 v l.length (t3L l)) ∧ Hid (Xc.Good c 0 l) ∧ Hid (Keeps b w wr) ∧ Hid (IsDeck wr b)) (fun _ cc _ _ _ => 4 - (intOf cc).toNat)
  case atStart => exact ⟨1, [], by omega, by omega, by simp, by simp, rfl, Lib.hid ⟨rfl, .inl ⟨rfl, rfl⟩⟩, Lib.hid ⟨(fun x hx => by simp at hx), fun i h0 hi => by simp at hi⟩, Lib.hid (Keeps.refl _ _), HD⟩
  case round =>
    clear HD
    obtain ⟨c, l, hc1, hc4, hl1, hl2, rfl, HO, HG, HK, HD⟩ := hrel
    by_cases hlt : c ≤ 3
    · have hci : (c : Int) ≤ 3 := by omega
      go_wp2_with fail
      refine (next_any b 3 _ HD.out (by omega) (by omega)).mono ?_
      rintro e w2 ⟨k0, rfl, k1, k2, hk2, hd2⟩
      replace HO := Lib.hid (own_keeps HO.out hk2 hb)
      replace HK := Lib.hid (HK.out.trans hk2)
      replace HD := Lib.hid hd2
      clear hk2 hd2
      obtain ⟨kn, rfl⟩ : ∃ n : Nat, k0 = n := ⟨k0.toNat, by omega⟩
      go_wp2_with fail
      go_loopw [3, 5, 6] (fun v ff kk wr => ∃ (fr : Int) (k : Nat) (m : List T3), k ≤ 3 ∧ m.length + k ≤ 3 * c ∧ c - 1 ≤ m.length ∧ (k ≤ 2 → m.length + k ≤ 3 * c) ∧ (k = 0 → c ≤ m.length) ∧ 0 ≤ fr ∧ fr ≤ 41 * m.length ∧ ff = .int .i64 fr ∧ kk = .int .i64 ((k : Int) - 1) ∧ Hid (wr.ownsRow w.heap.size 24 3 v m.length (t3L m)) ∧ Hid (Xc.Good c fr m) ∧ Hid (Keeps b w wr) ∧ Hid (IsDeck wr b)) (fun _ _ kk _ => (intOf kk + 1).toNat)
      case atStart => exact ⟨0, kn + 1, l, by omega, by omega, hl2, (fun _ => by omega), (fun h => by omega), by omega, by omega, rfl, by congr 1; omega, HO, HG, HK, HD⟩
      case round =>
        clear HO HG HK HD
        obtain ⟨fr, k, m, hk3, hm1, hm2, hm3, hm4, hf0, hf1, rfl, rfl, HO, HG, HK, HD⟩ := hrel
        by_cases hz : k = 0
        · subst hz
          go_wp2_with fail
          go_roundw
          case rel => exact ⟨c + 1, m, by omega, by omega, by omega, by have := hm4 rfl; omega, by go_num, HO, Lib.hid (by have := HG.out.next; rwa [show ((c + 1 : Nat) : Int) = (c : Int) + 1 by omega]), HK, HD⟩
          case measure => simp [intOf]; omega
        · obtain ⟨j, rfl⟩ : ∃ j, k = j + 1 := ⟨k - 1, by omega⟩
          rw [show ((j + 1 : Nat) : Int) - 1 = (j : Int) by omega]
          have hj0 : (0 : Int) ≤ j := by omega
          go_wp2_with fail
          refine (upto_any b 4000000 _ HD.out (by omega) (by omega)).mono ?_
          rintro e w3 ⟨y, rfl, y0, y1, hk2, hd2⟩
          replace HO := Lib.hid (own_keeps HO.out hk2 hb)
          replace HK := Lib.hid (HK.out.trans hk2)
          replace HD := Lib.hid hd2
          have hs := HK.out.size
          clear hk2 hd2
          have HP : Hid (t3L (m ++ [⟨c, fr, 1000 + y⟩]) = t3L m ++ [.int .i64 c, .int .i64 fr, .int .i64 (1000 + y)]) := Lib.hid (t3L_snoc m ⟨c, fr, 1000 + y⟩)
          go_wp2_with ((at_builtin; refine wpList_append_lies _ rfl _ _ 25 rfl w.heap.size 24 i0 _ 3 24 Try.underlying25 HI.out HZ0.out HZ1.out HZ2.out rfl (by omega) u3 m.length (t3L m) rfl (HO.out.alloc _) ⟨w3.heap.size, 0, none⟩ 1 1 [.int .i64 c, .int .i64 fr, .int .i64 (1000 + y)] rfl rfl (World.news_of_block (cs := #[.int .i64 c, .int .i64 fr, .int .i64 (1000 + y)]) (t := 24) (fr := (0, 0)) (heap_alloc_new w3 _)) (by simp [Value.oneCell']) (by omega) (by unfold maxLen; omega) (by omega) (by simp; omega) (w3.heap.size + 1) (by simp) ?_; intro g cap w4 hown hgrow hat hlt; have HO2 := Lib.hid hown; have HK2 : Hid (Keeps b w w4) := Lib.hid ((HK.out.alloc _).grown hgrow fun q hq => by obtain ⟨_, _, hg⟩ := own_form HO.out hq; exact hg); have HD2 : Hid (IsDeck w4 b) := Lib.hid ((HD.out.alloc _).below ((Below.refl (b + 1) _).grown hgrow (by simp; omega) fun q hq => by obtain ⟨_, _, hg⟩ := own_form HO.out hq; omega) (by omega)); clear hown hgrow hat))
          refine (next_any b 40 _ HD2.out (by omega) (by omega)).mono ?_
          rintro e w5 ⟨z, rfl, z0, z1, hk2, hd2⟩
          replace HO2 := Lib.hid (own_keeps HO2.out hk2 hb)
          replace HK2 := Lib.hid (HK2.out.trans hk2)
          replace HD2 := Lib.hid hd2
          clear hk2 hd2
          go_wp2_with fail
          go_roundw
          case rel => exact ⟨fr + 1 + z, j, m ++ [⟨c, fr, 1000 + y⟩], by omega, by simp; omega, by simp; omega, (fun _ => by simp; omega), (fun _ => by simp; omega), by omega, by simp; omega, rfl, rfl, Lib.hid (by rw [HP.out]; simpa using HO2.out), Lib.hid (HG.out.add ⟨by omega, by omega⟩ ⟨by omega, by omega⟩ ⟨by omega, by omega⟩ (by omega)), HK2, HD2⟩
          case measure => simp [intOf]
    · obtain rfl : c = 4 := by omega
      obtain ⟨g, cap, rfl, hg⟩ := own_some HO.out (by omega)
      have hs := HK.out.size
      go_wp2_with fail
      go_ret
      exact ⟨g, cap, l, _, _, rfl, by omega, by omega, by omega, hg, Trips.of_own HO.out, HG.out, HK.out, HD.out⟩
end Go.Proofs.Ytojpjglkdmmfjaa
