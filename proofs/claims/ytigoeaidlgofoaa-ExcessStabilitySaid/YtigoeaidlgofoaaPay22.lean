/- The payments that the laws of layer 22 make. -/
import Derived.Test.YtigoeaidlgofoaaPairsOwn
import Derived.Test.YtigoeaidlgofoaaDeck
import Derived.Deep.AppendLies
import Derived.KernelRfl
namespace Go.Proofs.Ytigoeaidlgofoaa
open Go.RowKit

set_option maxRecDepth 100000 in
theorem pay_info : (Try.prog.info? 53).map (fun i => (i.zero, i.size, i.bytes)) = some (some (.agg #[.int .i64 0, .int .i64 0]), 2, 16) := by kernel_rfl

/-- what payments returns -/
def PayPost (b : Nat) (w : World) (e : Ending) (w' : World) : Prop := ∃ (A : Option Addr) (c : Nat) (ps : List (Int × Int)), e = .returned (.slice A ps.length c) ∧ ps.length ≤ 6 ∧ (∀ ad, A = some ad → ad.block ≠ b ∧ w.heap.size ≤ ad.block) ∧
  Pairs w' w'.heap.size A ps.length (fstOf ps) (sndOf ps) ∧ (∀ a, a ∈ ps → 0 ≤ a.1 ∧ a.1 ≤ 199 ∧ 0 ≤ a.2 ∧ a.2 ≤ 1073741824) ∧ Keeps b w w' ∧ IsDeck w' b

set_option maxRecDepth 100000 in
set_option maxHeartbeats 2000000 in
theorem payments_any (b : Nat) (w : World) (hd : IsDeck w b) :
    Calls Try.prog 31 #[.pointer (some ⟨b, 0, none⟩)] w (PayPost b w) := by
  have HD := Lib.hid hd
  have hb := hd.lt
  obtain ⟨i0, hi0, hz0, hz1, hz2⟩ := info_parts pay_info
  have HI := Lib.hid hi0
  have HZ0 := Lib.hid hz0
  have HZ1 := Lib.hid hz1
  have HZ2 := Lib.hid hz2
  clear hd hi0 hz0 hz1 hz2
  go_enter Try.func31, Try.ntmps31
  go_wp2_with fail
  refine (next_any b 7 _ HD.out (by omega) (by omega)).mono ?_
  rintro e w1 ⟨k0, rfl, k1, k2, hk, hd⟩
  have HK := Lib.hid hk
  replace HD := Lib.hid hd
  clear hk hd
  obtain ⟨kn, rfl⟩ : ∃ n : Nat, k0 = n := ⟨k0.toNat, by omega⟩
  go_wp2_with fail
  go_loopw [3, 4] (fun v i wr => ∃ (k : Nat) (ps : List (Int × Int)), k + ps.length ≤ 6 ∧ i = .int .i64 k ∧ Hid (wr.ownsRow w.heap.size 53 2 v ps.length (cellsOf ps)) ∧ Hid (∀ a, a ∈ ps → 0 ≤ a.1 ∧ a.1 ≤ 199 ∧ 0 ≤ a.2 ∧ a.2 ≤ 1073741824) ∧ Hid (Keeps b w wr) ∧ Hid (IsDeck wr b)) (fun _ i _ => (intOf i).toNat)
  case atStart => exact ⟨kn, [], by simp; omega, rfl, Lib.hid ⟨rfl, .inl ⟨rfl, rfl⟩⟩, Lib.hid fun a ha => by simp at ha, HK, HD⟩
  case round =>
    obtain ⟨k, ps, hkp, rfl, HO, HA, HK, HD⟩ := hrel
    by_cases hz : k = 0
    · subst hz
      have hs := HK.out.size
      rcases HO.out.2 with ⟨hv, hv0⟩ | ⟨g, cap, cur, hv, hg, _, _, _, _, _⟩
      · subst hv
        go_wp2_with fail
        go_ret
        exact ⟨none, 0, ps, by rw [hv0]; rfl, by omega, (fun ad h => by cases h), by rw [hv0]; exact Pairs.zero, HA.out, HK.out, HD.out⟩
      · subst hv
        go_wp2_with fail
        go_ret
        refine ⟨_, cap, ps, rfl, by omega, fun ad h => ?_, Pairs.of_own HO.out, HA.out, HK.out, HD.out⟩
        injection h with h
        subst h
        exact ⟨by simp only; omega, hg⟩
    · have hk1 : (0 : Int) < k := by omega
      go_wp2_with fail
      refine (next_any b 200 _ HD.out (by omega) (by omega)).mono ?_
      rintro e w2 ⟨x, rfl, x0, x1, hk2, hd2⟩
      replace HO := Lib.hid (own_keeps HO.out hk2 hb)
      replace HK := Lib.hid (HK.out.trans hk2)
      replace HD := Lib.hid hd2
      clear hk2 hd2
      go_wp2_with fail
      refine (money_any b _ HD.out).mono ?_
      rintro e w3 ⟨y, rfl, y0, y1, hk2, hd2⟩
      replace HO := Lib.hid (own_keeps HO.out hk2 hb)
      replace HK := Lib.hid (HK.out.trans hk2)
      replace HD := Lib.hid hd2
      have hs := HK.out.size
      clear hk2 hd2
      have HP : Hid (cellsOf (ps ++ [(x, y)]) = cellsOf ps ++ [.int .i64 x, .int .i64 y]) := Lib.hid (cellsOf_snoc ps (x, y))
      have HA2 : Hid (∀ a, a ∈ ps ++ [(x, y)] → 0 ≤ a.1 ∧ a.1 ≤ 199 ∧ 0 ≤ a.2 ∧ a.2 ≤ 1073741824) := Lib.hid fun a ha => by
        rcases List.mem_append.1 ha with h | h
        · exact HA.out a h
        · simp at h; subst h; simp only; omega
      go_wp2_with ((at_builtin; refine wpList_append_lies _ rfl _ _ 48 rfl w.heap.size 53 i0 _ 2 16 Try.underlying48 HI.out HZ0.out HZ1.out HZ2.out rfl (by omega) u3 ps.length (cellsOf ps) rfl (HO.out.alloc _) ⟨w3.heap.size, 0, none⟩ 1 1 [.int .i64 x, .int .i64 y] rfl rfl (World.news_of_block (cs := #[.int .i64 x, .int .i64 y]) (t := 53) (fr := (0, 0)) (heap_alloc_new w3 _)) (by simp [Value.oneCell']) (by omega) (by unfold maxLen; omega) (by omega) (by simp; omega) (w3.heap.size + 1) (by simp) ?_; intro g cap w4 hown hgrow hat hlt))
      have HO2 := Lib.hid hown
      have HK2 : Hid (Keeps b w w4) := Lib.hid ((HK.out.alloc _).grown hgrow fun q hq => by obtain ⟨_, _, hg⟩ := own_form HO.out hq; exact hg)
      have HD2 : Hid (IsDeck w4 b) := Lib.hid ((HD.out.alloc _).below ((Below.refl (b + 1) _).grown hgrow (by simp; omega) fun q hq => by obtain ⟨_, _, hg⟩ := own_form HO.out hq; omega) (by omega))
      clear hown hgrow hat
      go_wp2_with fail
      go_roundw
      case rel => exact ⟨k - 1, ps ++ [(x, y)], by simp; omega, by congr 1; omega, Lib.hid (by rw [HP.out]; simpa using HO2.out), HA2, HK2, HD2⟩
      case measure => simp [intOf]; omega
end Go.Proofs.Ytigoeaidlgofoaa
