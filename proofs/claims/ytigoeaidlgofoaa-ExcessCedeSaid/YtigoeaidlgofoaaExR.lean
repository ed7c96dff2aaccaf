/- The reference's Tower. -/
import Derived.Test.YtigoeaidlgofoaaExT
import Derived.Deep.RegionLaw
import Derived.Deep.AppendLies
import Derived.OwnWalk
namespace Go.Proofs.Ytigoeaidlgofoaa
open Go.RowKit

theorem still_left {P : Program} {f : FuncId} {args : Array Value} {w : World} {v : Value} (h : Calls P f args w fun e w' => e = .returned v ∧ w = w') : Calls P f args w fun e w'' => e = .returned v ∧ w'' = w :=
  h.mono fun _ _ ⟨he, hm⟩ => ⟨he, hm.symm⟩

namespace Ex
theorem terr_range {a : Int} {n : Nat} {r l : Nat → Int} (hn : n ≤ 64) (h : ¬ (amt a ∧ ∀ j, j < n → amt (r j) ∧ amt (l j))) : terr a n r l = 1 := by
  rw [terr, if_neg (by omega)]
  by_cases ha : amt a
  · rw [if_neg (fun c => c ha), if_pos]
    intro hz
    refine h ⟨ha, fun j hj => ?_⟩
    have := scan_zero _ _ _ hz j (by omega) (by omega)
    by_cases c : amt (r j) ∧ amt (l j)
    · exact c
    · rw [tc1_bad c] at this; omega
  · rw [if_pos ha]
theorem terr_order {a : Int} {n : Nat} {r l : Nat → Int} (hn : n ≤ 64) (h : amt a ∧ ∀ j, j < n → amt (r j) ∧ amt (l j)) : terr a n r l = scan (tc2 r l) (n - 0) 0 := by
  rw [terr, if_neg (by omega), if_neg (fun c => c h.1), if_neg]
  · rfl
  · exact fun c => c (scan_fine _ _ _ fun j _ hj => tc1_fine (h.2 j (by omega)))
end Ex

/-- what the flag says behind k rounds -/
def OkTo (a : Int) (r l : Nat → Int) (q : Bool) (k : Nat) : Prop := q = true ↔ Ex.amt a ∧ ∀ j, j < k → Ex.amt (r j) ∧ Ex.amt (l j)

def layers (a : Int) (r l : Nat → Int) (k : Nat) : List Value := (List.range k).map fun q => .int .i64 (Ex.layer a (r q) (l q))
theorem layers_succ (a : Int) (r l : Nat → Int) (k : Nat) : layers a r l (k + 1) = layers a r l k ++ [.int .i64 (Ex.layer a (r k) (l k))] := by
  simp [layers, List.range_succ]

set_option maxRecDepth 100000 in
set_option maxHeartbeats 2000000 in
theorem rtower_any (a : Int) (A : Option Addr) (n c : Nat) (r l : Nat → Int) (w : World) (hn : n ≤ 9223372036854775807) (hp : Pairs w w.heap.size A n r l) :
    Calls Try.prog 18 #[.int .i64 a, .slice A n c] w (TowerPost a n r l w) := by
  have H := Lib.hid hp
  obtain ⟨i0, hi0, hz0, hz1, hz2⟩ := info_parts int_info
  have HI := Lib.hid hi0
  have HZ0 := Lib.hid hz0
  have HZ1 := Lib.hid hz1
  have HZ2 := Lib.hid hz2
  clear hp hi0 hz0 hz1 hz2
  by_cases hl : 64 < n
  · have HE : Hid (Ex.terr a n r l = 4) := Lib.hid (if_pos hl)
    go_enter Try.func18, Try.ntmps18
    go_wp2_with fail
    go_ret2
    exact TowerPost.err HE.out (by omega) (Below.refl _ _)
  have hl' : n ≤ 64 := by omega
  obtain ⟨qa, hqa⟩ : ∃ q, decide (0 ≤ a ∧ a ≤ 17592186044416) = q := ⟨_, rfl⟩
  have HQA : Hid (OkTo a r l qa 0) := Lib.hid (by rw [OkTo, ← hqa, decide_eq_true_iff]; exact ⟨fun h => ⟨h, fun j hj => absurd hj (by omega)⟩, fun h => h.1⟩)
  have CA : Hid (∀ W, Calls Try.prog 41 #[.int .i64 a] W fun e w' => e = .returned (.bool qa) ∧ W = w') := Lib.hid fun W => by
    have := ramount_any a W
    rw [hqa] at this
    exact this
  clear hqa hl hn
  go_enter Try.func18, Try.ntmps18
  go_wp2_with ((go_at_call 41; refine (CA.out _).mono ?_; rintro e w' ⟨rfl, rfl⟩))
  go_loop [6, 7] (fun s i => ∃ (k : Nat) (q : Bool), k ≤ n ∧ i = .int .i64 k ∧ s = .bool q ∧ Hid (OkTo a r l q k)) (fun _ i => n - (intOf i).toNat)
  case atStart => exact ⟨0, qa, Nat.zero_le _, rfl, rfl, HQA⟩
  case round =>
    obtain ⟨k, q, hk, rfl, rfl, HQ⟩ := hrel
    by_cases hlt : k < n
    · obtain ⟨b, o, rfl, had, hc0, hc1⟩ := H.out.get hlt
      obtain ⟨x, hx⟩ : ∃ x, r k = x := ⟨_, rfl⟩
      obtain ⟨y, hy⟩ : ∃ y, l k = y := ⟨_, rfl⟩
      rw [hx] at hc0
      rw [hy] at hc1
      have HX := Lib.hid hx
      have HY := Lib.hid hy
      clear hx hy
      cases q
      · have HN : Hid (OkTo a r l false (k + 1)) := Lib.hid ⟨(fun h => by cases h), fun h => HQ.out.2 ⟨h.1, fun j hj => h.2 j (by omega)⟩⟩
        clear HQ
        go_wp2_with fail
        go_round
        case rel => exact ⟨k + 1, false, by omega, by go_num, rfl, HN⟩
        case measure => simp [intOf]; omega
      · by_cases hh : 0 ≤ x ∧ x ≤ 17592186044416
        · by_cases hi : 0 ≤ y ∧ y ≤ 17592186044416
          · have HN : Hid (OkTo a r l true (k + 1)) := Lib.hid ⟨fun h => ⟨(HQ.out.1 rfl).1, fun j hj => by
              by_cases e : j = k
              · rw [e, HX.out, HY.out]; exact ⟨hh, hi⟩
              · exact (HQ.out.1 rfl).2 j (by omega)⟩, fun _ => rfl⟩
            have d1 : decide (0 ≤ x ∧ x ≤ 17592186044416) = true := by rw [decide_eq_true_iff]; exact hh
            have d2 : decide (0 ≤ y ∧ y ≤ 17592186044416) = true := by rw [decide_eq_true_iff]; exact hi
            clear HQ hh hi
            go_wp2_with (first | (go_at_call 41; refine (ramount_any _ _).mono ?_; rintro e w' ⟨rfl, rfl⟩))
            go_round
            case rel => exact ⟨k + 1, true, by omega, by go_num, rfl, HN⟩
            case measure => simp [intOf]; omega
          · have HN : Hid (OkTo a r l false (k + 1)) := Lib.hid ⟨(fun h => by cases h), fun h => absurd (h.2 k (by omega)).2 (by rw [HY.out]; exact hi)⟩
            have d1 : decide (0 ≤ x ∧ x ≤ 17592186044416) = true := by rw [decide_eq_true_iff]; exact hh
            have d2 : decide (0 ≤ y ∧ y ≤ 17592186044416) = false := by rw [decide_eq_false_iff_not]; exact hi
            clear HQ hh hi
            go_wp2_with (first | (go_at_call 41; refine (ramount_any _ _).mono ?_; rintro e w' ⟨rfl, rfl⟩))
            go_round
            case rel => exact ⟨k + 1, false, by omega, by go_num, rfl, HN⟩
            case measure => simp [intOf]; omega
        · have HN : Hid (OkTo a r l false (k + 1)) := Lib.hid ⟨(fun h => by cases h), fun h => absurd (h.2 k (by omega)).1 (by rw [HX.out]; exact hh)⟩
          have d1 : decide (0 ≤ x ∧ x ≤ 17592186044416) = false := by rw [decide_eq_false_iff_not]; exact hh
          clear HQ hh
          go_wp2_with (first | (go_at_call 41; refine (ramount_any _ _).mono ?_; rintro e w' ⟨rfl, rfl⟩))
          go_round
          case rel => exact ⟨k + 1, false, by omega, by go_num, rfl, HN⟩
          case measure => simp [intOf]; omega
    · have hkn : k = n := by omega
      subst hkn
      cases q
      · have HE : Hid (Ex.terr a k r l = 1) := Lib.hid (Ex.terr_range hl' fun h => by have := HQ.out.2 h; cases this)
        go_wp2_with fail
        go_ret2
        exact TowerPost.err HE.out (by omega) (Below.refl _ _)
      · have HF := Lib.hid (HQ.out.1 rfl)
        obtain ⟨S2, hS2⟩ : ∃ S, scan (Ex.tc2 r l) (k - 0) 0 = S := ⟨_, rfl⟩
        have HT2 : Hid (Ex.terr a k r l = S2) := Lib.hid (by rw [Ex.terr_order hl' HF.out, hS2])
        have HS2 := Lib.hid hS2
        clear hS2 HQ HQA CA
        go_wp2_with fail
        go_loopw [8, 9] (fun v i wr => ∃ j : Nat, j ≤ k ∧ i = .int .i64 j ∧ Hid (scan (Ex.tc2 r l) (k - j) j = S2) ∧ Hid (wr.ownsRow w.heap.size 3 1 v j (layers a r l j)) ∧ Hid (Below w.heap.size w wr)) (fun _ i _ => k - (intOf i).toNat)
        case atStart => exact ⟨0, Nat.zero_le _, rfl, HS2, Lib.hid ⟨rfl, .inl ⟨rfl, rfl⟩⟩, Lib.hid (Below.refl _ _)⟩
        case round =>
          obtain ⟨j, hj, rfl, HS, HO, HB⟩ := hrel
          have hs := HB.out.size
          by_cases hlt2 : j < k
          · obtain ⟨b, o, rfl, had, hc0, hc1⟩ := ((H.out.below HB.out).mono hs).get hlt2
            obtain ⟨x, hx⟩ : ∃ x, r j = x := ⟨_, rfl⟩
            obtain ⟨y, hy⟩ : ∃ y, l j = y := ⟨_, rfl⟩
            have hf := HF.out.2 j hlt2
            rw [hx, hy] at hf
            obtain ⟨⟨hx0, hx1⟩, hy0, hy1⟩ := hf
            rw [hx] at hc0
            rw [hy] at hc1
            have HLY : Hid (layers a r l (j + 1) = layers a r l j ++ [.int .i64 (Ex.layer a x y)]) := Lib.hid (by rw [layers_succ, hx, hy])
            have HX := Lib.hid hx
            have HY := Lib.hid hy
            obtain ⟨z, hz⟩ : ∃ z, Ex.layer a x y = z := ⟨_, rfl⟩
            rw [hz] at HLY
            have CL : Hid (∀ W, Calls Try.prog 15 #[.int .i64 a, .int .i64 x, .int .i64 y] W fun e w' => e = .returned (.int .i64 z) ∧ W = w') := Lib.hid fun W => by
              have := rlayer_any a x y W
              rw [hz] at this
              exact this
            have hj0' : (0 : Int) ≤ j := by omega
            have hj1' : (j : Int) < k := by omega
            clear hx hy hz
            cases j with
            | zero =>
              have HG : Hid (scan (Ex.tc2 r l) (k - (0 + 1)) (0 + 1) = S2) := Lib.hid (by rw [← scan_go _ hlt2 (Ex.tc2_fine (by omega))]; exact HS.out)
              simp only [Nat.zero_mul, Nat.add_zero] at hc0 hc1
              go_wp2_with fail
              go_quiet (fail)
              go_wp2_with fail
              obtain ⟨wd, hwd⟩ : ∃ wd, wr.drewN nq = wd := ⟨_, rfl⟩
              rw [hwd]
              have HO2 : Hid (wd.ownsRow w.heap.size 3 1 u8 (0) (layers a r l (0))) := Lib.hid (by rw [← hwd]; exact HO.out)
              have HB2 : Hid (Below w.heap.size w wd) := Lib.hid (by rw [← hwd]; exact below_drewN HB.out nq)
              have hc0' : wd.cell? ⟨b, o, none⟩ = some (.int .i64 x) := by rw [← hwd]; exact hc0
              have hc1' : wd.cell? ⟨b, o + 1, none⟩ = some (.int .i64 y) := by rw [← hwd]; exact hc1
              have hs2 := HB2.out.size
              have had' : b < wd.heap.size := by rw [← hwd]; exact had
              clear hwd hc0 hc1
              go_region_law (first
                | (refine step_append_lies _ (by rfl) _ _ _ (by rfl) w.heap.size 3 i0 _ 1 8 Try.underlying22 HI.out HZ0.out HZ1.out HZ2.out rfl (by omega) u8 (0) (layers a r l (0)) (by rfl) ((HO2.out.alloc _).drew) ⟨wd.heap.size, 0, none⟩ 1 1 [.int .i64 z] (by rfl) (by rfl) (World.news_of_block (cs := #[.int .i64 z]) (t := 3) (fr := (0, 0)) (heap_alloc_new wd _)) (by simp [Value.oneCell']) (by omega) (by unfold maxLen; omega) (by omega) (by simp; omega) (wd.heap.size + 1) (by simp) ?_; intro gg cap w1 hown1 hgrow hat hltg)
                | (go_simp; go_at_call 15; refine (CL.out _).mono ?_; rintro e w' ⟨rfl, rfl⟩))
              all_goals
                have HO3 := Lib.hid hown1
                have HB3 : Hid (Below w.heap.size w w1) := Lib.hid (((HB2.out.alloc hs2 _).drew).grown hgrow (by simp; omega) (fun q hq => by obtain ⟨_, _, hg⟩ := own_form HO2.out hq; exact hg))
                clear hown1 hgrow hat
                go_wp2_with fail
                go_roundw
                case rel => exact ⟨0 + 1, by omega, by first | rfl | go_num, HG, Lib.hid (by rw [HLY.out]; exact HO3.out), HB3⟩
                case measure => simp [intOf]; omega
            | succ j =>
              obtain ⟨b', o', e', _, hp0, hp1⟩ := ((H.out.below HB.out).mono hs).get (j := j) (by omega)
              simp only [Option.some.injEq, Addr.mk.injEq, and_true] at e'
              obtain ⟨rfl, rfl⟩ := e'
              have hf := HF.out.2 j (by omega)
              obtain ⟨p, hp⟩ : ∃ p, r j = p := ⟨_, rfl⟩
              obtain ⟨q, hq⟩ : ∃ q, l j = q := ⟨_, rfl⟩
              rw [hp] at hp0
              rw [hq] at hp1
              rw [hp, hq] at hf
              obtain ⟨⟨hf0, hf1⟩, hf2, hf3⟩ := hf
              have HPP := Lib.hid hp
              have HQQ := Lib.hid hq
              have hw : IntKind.i64.wrap (((j + 1 : Nat) : Int) - 1) = j := by rw [IntKind.wrap_i64]; omega
              have hw2 : IntKind.i64.wrap (p + q) = p + q := by rw [IntKind.wrap_i64]; omega
              have hj0 : (0 : Int) ≤ j := by omega
              have hj1 : (j : Int) < k := by omega
              have hj2 : (0 : Int) ≤ (j : Int) + 1 := by omega
              have hj3 : (j : Int) + 1 < k := by omega
              clear hp hq
              by_cases hord : x < p + q
              · have hb' : 0 < j + 1 ∧ r (j + 1) < r (j + 1 - 1) + l (j + 1 - 1) := ⟨by omega, by rw [HX.out, Nat.add_sub_cancel, HPP.out, HQQ.out]; exact hord⟩
                have HG : Hid ((13 : Int) = S2) := Lib.hid (by rw [← HS.out, scan_stop _ hlt2 (by rw [Ex.tc2_bad hb']; omega), Ex.tc2_bad hb'])
                clear hb'
                go_wp2_with fail
                go_quiet (fail)
                go_wp2_with fail
                go_ret2
                exact TowerPost.err (by rw [HT2.out, ← HG.out]) (by omega) (below_drewN HB.out _)
              · have HG : Hid (scan (Ex.tc2 r l) (k - (j + 1 + 1)) (j + 1 + 1) = S2) := Lib.hid (by rw [← scan_go _ hlt2 (Ex.tc2_fine (by rw [HX.out, Nat.add_sub_cancel, HPP.out, HQQ.out]; exact fun c => hord c.2))]; exact HS.out)
                go_wp2_with fail
                go_quiet (fail)
                go_wp2_with fail
                clear hw hw2 hp0 hp1
                obtain ⟨wd, hwd⟩ : ∃ wd, wr.drewN nq = wd := ⟨_, rfl⟩
                rw [hwd]
                have HO2 : Hid (wd.ownsRow w.heap.size 3 1 u8 (j + 1) (layers a r l (j + 1))) := Lib.hid (by rw [← hwd]; exact HO.out)
                have HB2 : Hid (Below w.heap.size w wd) := Lib.hid (by rw [← hwd]; exact below_drewN HB.out nq)
                have hc0' : wd.cell? ⟨b, o + (j + 1) * 2, none⟩ = some (.int .i64 x) := by rw [← hwd]; exact hc0
                have hc1' : wd.cell? ⟨b, o + (j + 1) * 2 + 1, none⟩ = some (.int .i64 y) := by rw [← hwd]; exact hc1
                have hs2 := HB2.out.size
                have had' : b < wd.heap.size := by rw [← hwd]; exact had
                clear hwd hc0 hc1
                go_region_law (first
                  | (refine step_append_lies _ (by rfl) _ _ _ (by rfl) w.heap.size 3 i0 _ 1 8 Try.underlying22 HI.out HZ0.out HZ1.out HZ2.out rfl (by omega) u8 (j + 1) (layers a r l (j + 1)) (by rfl) ((HO2.out.alloc _).drew) ⟨wd.heap.size, 0, none⟩ 1 1 [.int .i64 z] (by rfl) (by rfl) (World.news_of_block (cs := #[.int .i64 z]) (t := 3) (fr := (0, 0)) (heap_alloc_new wd _)) (by simp [Value.oneCell']) (by omega) (by unfold maxLen; omega) (by omega) (by simp; omega) (wd.heap.size + 1) (by simp) ?_; intro gg cap w1 hown1 hgrow hat hltg)
                  | (go_simp; go_at_call 15; refine (CL.out _).mono ?_; rintro e w' ⟨rfl, rfl⟩))
                all_goals
                  have HO3 := Lib.hid hown1
                  have HB3 : Hid (Below w.heap.size w w1) := Lib.hid (((HB2.out.alloc hs2 _).drew).grown hgrow (by simp; omega) (fun q hq => by obtain ⟨_, _, hg⟩ := own_form HO2.out hq; exact hg))
                  clear hown1 hgrow hat
                  go_wp2_with fail
                  go_roundw
                  case rel => exact ⟨j + 1 + 1, by omega, by first | rfl | go_num, HG, Lib.hid (by rw [HLY.out]; exact HO3.out), HB3⟩
                  case measure => simp [intOf]; omega
          · have hjk : j = k := by omega
            subst hjk
            have HE : Hid (Ex.terr a j r l = 0) := Lib.hid (by rw [HT2.out, ← HS.out, scan_end])
            rcases HO.out.2 with ⟨hv, hv0⟩ | ⟨gg, cap, cur, hv, _, _, _, _, _, _⟩
            · subst hv
              go_wp2_with fail
              go_ret2
              exact ⟨none, 0, 0, by rw [HE.out]; rfl, HB.out, by rw [HE.out, if_pos rfl]; omega, Nums.zero⟩
            · subst hv
              go_wp2_with fail
              go_ret2
              refine ⟨_, j, cap, by rw [HE.out]; rfl, HB.out, by rw [HE.out, if_pos rfl], ?_⟩
              have := Cells.of_own HO.out (fun q => .int .i64 (Ex.layer a (r q) (l q))) fun q hq => by simp [layers]
              rwa [Nat.mul_one] at this
end Go.Proofs.Ytigoeaidlgofoaa
