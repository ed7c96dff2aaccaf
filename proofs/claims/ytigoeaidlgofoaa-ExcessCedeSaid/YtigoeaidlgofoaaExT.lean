/- excess.Tower: what each layer recovers. -/
import Derived.Test.YtigoeaidlgofoaaExAt
import Derived.Test.YtigoeaidlgofoaaRow
import Derived.Test.YtigoeaidlgofoaaSame
import Derived.KernelRfl
namespace Go.Proofs.Ytigoeaidlgofoaa
open Go.RowKit

set_option maxRecDepth 100000 in
theorem int_info : (Try.prog.info? 3).map (fun i => (i.zero, i.size, i.bytes)) = some (some (.int .i64 0), 1, 8) := by kernel_rfl

namespace Ex
theorem tc1_bad {r l : Nat → Int} {i : Nat} (h : ¬ (amt (r i) ∧ amt (l i))) : tc1 r l i = 1 := if_neg h
theorem tc1_fine {r l : Nat → Int} {i : Nat} (h : amt (r i) ∧ amt (l i)) : tc1 r l i = 0 := if_pos h
theorem tc2_bad {r l : Nat → Int} {i : Nat} (h : 0 < i ∧ r i < r (i - 1) + l (i - 1)) : tc2 r l i = 13 := if_pos h
theorem tc2_fine {r l : Nat → Int} {i : Nat} (h : ¬ (0 < i ∧ r i < r (i - 1) + l (i - 1))) : tc2 r l i = 0 := if_neg h
end Ex

/-- what Tower returns -/
def TowerPost (a : Int) (n : Nat) (r l : Nat → Int) (w : World) (e : Ending) (w' : World) : Prop :=
  ∃ (A : Option Addr) (m c : Nat), e = .returned (.tuple #[.slice A m c, .int .i64 (Ex.terr a n r l)]) ∧ Below w.heap.size w w' ∧ m = (if Ex.terr a n r l = 0 then n else 0) ∧ Nums w' w'.heap.size A m fun j => Ex.layer a (r j) (l j)

theorem TowerPost.err {a : Int} {n : Nat} {r l : Nat → Int} {w w' : World} {x : Int} (h : Ex.terr a n r l = x) (hx : x ≠ 0) (hb : Below w.heap.size w w') :
    TowerPost a n r l w (.returned (.tuple #[.slice none 0 0, .int .i64 x])) w' :=
  ⟨none, 0, 0, by rw [h], hb, by rw [h, if_neg hx], Nums.zero⟩

set_option maxRecDepth 100000 in
set_option maxHeartbeats 2000000 in
theorem tower_any (a : Int) (A : Option Addr) (n c : Nat) (r l : Nat → Int) (w : World) (hn : n ≤ 9223372036854775807) (hp : Pairs w w.heap.size A n r l) :
    Calls Try.prog 17 #[.int .i64 a, .slice A n c] w (TowerPost a n r l w) := by
  have H := Lib.hid hp
  obtain ⟨i0, hi0, hz0, hz1, hz2⟩ := info_parts int_info
  have HI := Lib.hid hi0
  have HZ0 := Lib.hid hz0
  have HZ1 := Lib.hid hz1
  have HZ2 := Lib.hid hz2
  clear hp hi0 hz0 hz1 hz2
  by_cases hl : 64 < n
  · have HE : Hid (Ex.terr a n r l = 4) := Lib.hid (if_pos hl)
    go_enter Try.func17, Try.ntmps17
    go_wp2_with fail
    go_ret2
    exact TowerPost.err HE.out (by omega) (Below.refl _ _)
  by_cases ha : 0 ≤ a ∧ a ≤ 17592186044416
  · have HT : Hid (Ex.terr a n r l = if scan (Ex.tc1 r l) n 0 ≠ 0 then 1 else scan (Ex.tc2 r l) n 0) := Lib.hid (by rw [Ex.terr, if_neg hl, if_neg (fun c => c ha)])
    have hl' : n ≤ 64 := by omega
    obtain ⟨ha0, ha1⟩ := ha
    obtain ⟨S1, hS1⟩ : ∃ S, scan (Ex.tc1 r l) (n - 0) 0 = S := ⟨_, rfl⟩
    obtain ⟨S2, hS2⟩ : ∃ S, scan (Ex.tc2 r l) (n - 0) 0 = S := ⟨_, rfl⟩
    have HS1 := Lib.hid hS1
    have HS2 := Lib.hid hS2
    rw [show scan (Ex.tc1 r l) n 0 = S1 from hS1, show scan (Ex.tc2 r l) n 0 = S2 from hS2] at HT
    clear hS1 hS2 hl hn
    go_enter Try.func17, Try.ntmps17
    go_wp2_with (first | (go_at_call 40; refine (exwithin_any _ _ _ _).mono ?_; rintro e w' ⟨rfl, rfl⟩))
    go_loopw [7, 19] (fun _ i wr => ∃ k : Nat, k ≤ n ∧ i = .int .i64 k ∧ Hid (scan (Ex.tc1 r l) (n - k) k = S1) ∧ Hid (Below w.heap.size w wr)) (fun _ i _ => n - (intOf i).toNat)
    case atStart => exact ⟨0, Nat.zero_le _, rfl, HS1, Lib.hid (Below.refl _ _)⟩
    case round =>
      obtain ⟨k, hk, rfl, HS, HB⟩ := hrel
      have hs := HB.out.size
      by_cases hlt : k < n
      · obtain ⟨b, o, rfl, had, hc0, hc1⟩ := ((H.out.below HB.out).mono hs).get hlt
        obtain ⟨x, hx⟩ : ∃ x, r k = x := ⟨_, rfl⟩
        obtain ⟨y, hy⟩ : ∃ y, l k = y := ⟨_, rfl⟩
        rw [hx] at hc0
        rw [hy] at hc1
        by_cases hh : 0 ≤ x ∧ x ≤ 17592186044416
        · by_cases hi : 0 ≤ y ∧ y ≤ 17592186044416
          · have HG : Hid (scan (Ex.tc1 r l) (n - (k + 1)) (k + 1) = S1) := Lib.hid (by rw [← scan_go _ hlt (Ex.tc1_fine (by rw [hx, hy]; exact ⟨hh, hi⟩))]; exact HS.out)
            obtain ⟨hh0, hh1⟩ := hh
            obtain ⟨hi0, hi1⟩ := hi
            clear hx hy HS HT
            go_wp2_with (first | (go_at_call 40; refine (exwithin_any _ _ _ _).mono ?_; rintro e w' ⟨rfl, rfl⟩))
            go_roundw
            case rel => exact ⟨k + 1, by omega, by go_num, HG, Lib.hid (HB.out.alloc hs _)⟩
            case measure => simp [intOf]; omega
          · have HG : Hid ((1 : Int) = S1) := Lib.hid (by rw [← HS.out, scan_stop _ hlt (by rw [Ex.tc1_bad (by rw [hx, hy]; exact fun c => hi c.2)]; omega), Ex.tc1_bad (by rw [hx, hy]; exact fun c => hi c.2)])
            have hd : decide (0 ≤ y ∧ y ≤ 17592186044416) = false := by rw [decide_eq_false_iff_not]; exact hi
            obtain ⟨hh0, hh1⟩ := hh
            clear hx hy HS hi
            go_wp2_with (first | (go_at_call 40; refine (exwithin_any _ _ _ _).mono ?_; rintro e w' ⟨rfl, rfl⟩))
            go_ret2
            exact TowerPost.err (by rw [HT.out, ← HG.out, if_pos (by omega)]) (by omega) (HB.out.alloc hs _)
        · have HG : Hid ((1 : Int) = S1) := Lib.hid (by rw [← HS.out, scan_stop _ hlt (by rw [Ex.tc1_bad (by rw [hx, hy]; exact fun c => hh c.1)]; omega), Ex.tc1_bad (by rw [hx, hy]; exact fun c => hh c.1)])
          have hd : decide (0 ≤ x ∧ x ≤ 17592186044416) = false := by rw [decide_eq_false_iff_not]; exact hh
          clear hx hy HS hh
          go_wp2_with (first | (go_at_call 40; refine (exwithin_any _ _ _ _).mono ?_; rintro e w' ⟨rfl, rfl⟩))
          go_ret2
          exact TowerPost.err (by rw [HT.out, ← HG.out, if_pos (by omega)]) (by omega) (HB.out.alloc hs _)
      · have hkn : k = n := by omega
        subst hkn
        have hS0 : S1 = 0 := by rw [← HS.out, scan_end]
        have HFINE : Hid (∀ j, j < k → Ex.amt (r j) ∧ Ex.amt (l j)) := Lib.hid fun j hj => by
          have := scan_zero (Ex.tc1 r l) (k - 0) 0 (by rw [HS1.out, hS0]) j (by omega) (by omega)
          by_cases c : Ex.amt (r j) ∧ Ex.amt (l j)
          · exact c
          · rw [Ex.tc1_bad c] at this; omega
        have HT2 : Hid (Ex.terr a k r l = S2) := Lib.hid (by rw [HT.out, if_neg (by rw [hS0]; simp)])
        clear hS0 HS HT HS1
        obtain ⟨W1, hmk, ho, hg⟩ := run_make_full (P := Try.prog) wr w.heap.size 22 3 i0 (.int .i64 0) 1 Try.underlying22 HI.out HZ0.out HZ1.out .i64 .i64 k (by rw [HZ2.out]; omega) (by unfold maxLen; omega) hs
        obtain ⟨h0, hrow⟩ := Row.some_made ho
        have HR0 := Lib.hid hrow
        have HB1 : Hid (Below w.heap.size w W1) := Lib.hid (HB.out.grown hg hs (fun _ h => by cases h))
        have hgs : w.heap.size ≤ wr.heap.size := hs
        obtain ⟨gb, hgb⟩ : ∃ g, wr.heap.size = g := ⟨_, rfl⟩
        clear ho hrow hg
        rw [hgb] at HR0 hgs
        go_wp2_with (first | (go_at_call 40; refine (exwithin_any _ _ _ _).mono ?_; rintro e w' ⟨rfl, rfl⟩))
        clear hmk hgb hs HB
        go_loopw [9, 10, 39] (fun _ _ i wr => ∃ j : Nat, j ≤ k ∧ i = .int .i64 j ∧ Hid (scan (Ex.tc2 r l) (k - j) j = S2) ∧ (∃ h : Nat → Value, Hid (Row wr gb k 3 h) ∧ Hid (∀ q, q < j → h q = .int .i64 (Ex.layer a (r q) (l q)))) ∧ Hid (Below w.heap.size w wr)) (fun _ _ i _ => k - (intOf i).toNat)
        case atStart => exact ⟨0, Nat.zero_le _, rfl, HS2, ⟨h0, HR0, Lib.hid fun q hq => absurd hq (by omega)⟩, HB1⟩
        case round =>
          obtain ⟨j, hj, rfl, HS, ⟨h, HR, HH⟩, HB⟩ := hrel
          have hs := HB.out.size
          by_cases hlt2 : j < k
          · obtain ⟨b, o, rfl, had, hc0, hc1⟩ := ((H.out.below HB.out).mono hs).get hlt2
            obtain ⟨x, hx⟩ : ∃ x, r j = x := ⟨_, rfl⟩
            obtain ⟨y, hy⟩ : ∃ y, l j = y := ⟨_, rfl⟩
            have hf := HFINE.out j hlt2
            rw [hx, hy] at hf
            obtain ⟨⟨hx0, hx1⟩, hy0, hy1⟩ := hf
            rw [hx] at hc0
            rw [hy] at hc1
            have HX := Lib.hid hx
            have HY := Lib.hid hy
            clear hx hy
            have hgl := HR.out.lt
            have CL := Lib.hid (layer_any a x y)
            cases j with
            | zero =>
              have HG : Hid (scan (Ex.tc2 r l) (k - (0 + 1)) (0 + 1) = S2) := Lib.hid (by rw [← scan_go _ hlt2 (Ex.tc2_fine (by omega))]; exact HS.out)
              simp only [Nat.zero_mul, Nat.add_zero] at hc0 hc1
              go_wp2_with fail
              go_quiet (fail)
              go_wp2_with fail
              refine (CL.out _).mono ?_
              rintro e w2 ⟨rfl, hb⟩
              have HR2 : Hid (Row w2 gb k 3 h) := Lib.hid (((HR.out.alloc _).drewN _).below hb (by simp; omega))
              have HB2 : Hid (Below w.heap.size w w2) := Lib.hid ((below_drewN (HB.out.alloc hs _) _).trans (hb.mono (by simp; omega)))
              have hq0 := HR2.out.cell (0) hlt2
              have hq1 := HR2.out.free (0)
              clear hb
              go_wp2_with fail
              go_roundw
              case rel => exact ⟨0 + 1, by omega, by first | rfl | go_num, HG, ⟨_, Lib.hid (HR2.out.put (0) _), Lib.hid fun q hq => (by
                by_cases hqj : q = 0
                · subst hqj; rw [if_pos rfl, HX.out, HY.out]
                · rw [if_neg hqj]; exact HH.out q (by omega))⟩, Lib.hid (HB2.out.setCell (by simp; omega) _)⟩
              case measure => simp [intOf]; omega
            | succ j =>
              obtain ⟨b', o', e', _, hp0, hp1⟩ := ((H.out.below HB.out).mono hs).get (j := j) (by omega)
              simp only [Option.some.injEq, Addr.mk.injEq, and_true] at e'
              obtain ⟨rfl, rfl⟩ := e'
              have hf := HFINE.out j (by omega)
              obtain ⟨p, hp⟩ : ∃ p, r j = p := ⟨_, rfl⟩
              obtain ⟨q, hq⟩ : ∃ q, l j = q := ⟨_, rfl⟩
              rw [hp] at hp0
              rw [hq] at hp1
              rw [hp, hq] at hf
              obtain ⟨⟨hf0, hf1⟩, hf2, hf3⟩ := hf
              have HPP := Lib.hid hp
              have HQQ := Lib.hid hq
              have hw : IntKind.i64.wrap (((j + 1 : Nat) : Int) - 1) = j := by rw [IntKind.wrap_i64]; omega
              have hw2 : IntKind.i64.wrap (p + q) = p + q := by rw [IntKind.wrap_i64]; omega
              have hj0 : (0 : Int) ≤ j := by omega
              have hj1 : (j : Int) < k := by omega
              clear hp hq
              by_cases hord : x < p + q
              · have hb' : 0 < j + 1 ∧ r (j + 1) < r (j + 1 - 1) + l (j + 1 - 1) := ⟨by omega, by rw [HX.out, Nat.add_sub_cancel, HPP.out, HQQ.out]; exact hord⟩
                have HG : Hid ((13 : Int) = S2) := Lib.hid (by rw [← HS.out, scan_stop _ hlt2 (by rw [Ex.tc2_bad hb']; omega), Ex.tc2_bad hb'])
                clear hb'
                go_wp2_with fail
                go_quiet (fail)
                go_wp2_with fail
                go_ret2
                exact TowerPost.err (by rw [HT2.out, ← HG.out]) (by omega) (below_drewN (HB.out.alloc hs _) _)
              · have HG : Hid (scan (Ex.tc2 r l) (k - (j + 1 + 1)) (j + 1 + 1) = S2) := Lib.hid (by rw [← scan_go _ hlt2 (Ex.tc2_fine (by rw [HX.out, Nat.add_sub_cancel, HPP.out, HQQ.out]; exact fun c => hord c.2))]; exact HS.out)
                go_wp2_with fail
                go_quiet (fail)
                go_wp2_with fail
                refine (CL.out _).mono ?_
                rintro e w2 ⟨rfl, hb⟩
                have HR2 : Hid (Row w2 gb k 3 h) := Lib.hid (((HR.out.alloc _).drewN _).below hb (by simp; omega))
                have HB2 : Hid (Below w.heap.size w w2) := Lib.hid ((below_drewN (HB.out.alloc hs _) _).trans (hb.mono (by simp; omega)))
                have hq0 := HR2.out.cell (j + 1) hlt2
                have hq1 := HR2.out.free (j + 1)
                clear hb
                go_wp2_with fail
                go_roundw
                case rel => exact ⟨j + 1 + 1, by omega, by first | rfl | go_num, HG, ⟨_, Lib.hid (HR2.out.put (j + 1) _), Lib.hid fun q hq => (by
                  by_cases hqj : q = j + 1
                  · subst hqj; rw [if_pos rfl, HX.out, HY.out]
                  · rw [if_neg hqj]; exact HH.out q (by omega))⟩, Lib.hid (HB2.out.setCell (by simp; omega) _)⟩
                case measure => simp [intOf]; omega
          · have hjk : j = k := by omega
            subst hjk
            have HE : Hid (Ex.terr a j r l = 0) := Lib.hid (by rw [HT2.out, ← HS.out, scan_end])
            go_wp2_with fail
            go_ret2
            exact ⟨_, j, j, by rw [HE.out]; rfl, HB.out, by rw [HE.out, if_pos rfl], Cells.congr HR.out.cells fun q hq => HH.out q hq⟩
  · have HE : Hid (Ex.terr a n r l = 1) := Lib.hid (by rw [Ex.terr, if_neg hl, if_pos (show ¬ Ex.amt a from ha)])
    have hd : decide (0 ≤ a ∧ a ≤ 17592186044416) = false := by rw [decide_eq_false_iff_not]; exact ha
    clear ha
    go_enter Try.func17, Try.ntmps17
    go_wp2_with (first | (go_at_call 40; refine (exwithin_any _ _ _ _).mono ?_; rintro e w' ⟨rfl, rfl⟩))
    go_ret2
    exact TowerPost.err HE.out (by omega) (Below.refl _ _)
end Go.Proofs.Ytigoeaidlgofoaa
