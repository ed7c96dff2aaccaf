/- exchange.Validate. -/
import Derived.Test.YtojpjglkdmmfjaaXcA
namespace Go.Proofs.Ytojpjglkdmmfjaa
open Go.RowKit
set_option linter.unusedVariables false

set_option maxRecDepth 100000 in
set_option maxHeartbeats 4000000 in
theorem xvalidate_any (A : Option Addr) (n c : Nat) (f : Nat → T3) (w : World) (hn : n ≤ 9223372036854775807) (hp : Trips w w.heap.size A n f) :
    Calls Try.prog 12 #[.slice A n c] w (IntPost (Xc.verr n f) w) := by
  have hn0 : (0 : Int) ≤ n := by omega
  by_cases h2 : 200 < n
  · rw [show Xc.verr n f = 4 from if_pos h2]
    have h1 : (200 : Int) < n := by omega
    clear hp
    go_enter Try.func12, Try.ntmps12
    go_wp2
    go_ret
    exact ⟨rfl, Below.refl _ _⟩
  have h1 : (n : Int) ≤ 200 := by omega
  obtain ⟨S, hS⟩ : ∃ S, scan (Xc.rc f) (n - 0) 0 = S := ⟨_, rfl⟩
  rw [show Xc.verr n f = S from by rw [Xc.verr, if_neg h2]; exact hS]
  have HS1 := Lib.hid hS
  have HP := Lib.hid hp
  clear hp hS h2
  go_enter Try.func12, Try.ntmps12
  go_wp2_with fail
  go_loopw [3, 4, 10] (fun _ _ i wr => ∃ k : Nat, k ≤ n ∧ i = .int .i64 k ∧ Hid (scan (Xc.rc f) (n - k) k = S) ∧ Hid (Below w.heap.size w wr)) (fun _ _ i _ => n - (intOf i).toNat)
  case atStart => exact ⟨0, Nat.zero_le _, rfl, HS1, Lib.hid (Below.refl _ _)⟩
  case round =>
    clear HS1
    obtain ⟨k, hk, rfl, HS, HB⟩ := hrel
    have hs := HB.out.size
    by_cases hlt : k < n
    · obtain ⟨b, o, rfl, had, hc0, hc1, hc2⟩ := ((HP.out.below HB.out).mono hs).get hlt
      have hk0 : (0 : Int) ≤ k := by omega
      have hk1 : (k : Int) < n := by omega
      obtain ⟨⟨x, y, z⟩, hx⟩ : ∃ x, f k = x := ⟨_, rfl⟩
      rw [hx] at hc0 hc1 hc2
      simp only at hc0 hc1 hc2
      have HX := Lib.hid hx
      clear hx
      by_cases g1 : 1 ≤ x ∧ x ≤ 15
      · obtain ⟨g10, g11⟩ := g1
        have HG1 : Hid (Xc.cuP (f k)) := Lib.hid (by rw [HX.out]; exact ⟨g10, g11⟩)
        by_cases g2 : Xc.hourP y
        · have HG2 := Lib.hid g2
          by_cases g3 : 1 ≤ z ∧ z ≤ 1000000000
          · have HG3 : Hid (Xc.puP (f k)) := Lib.hid (by rw [HX.out]; exact ⟨g2, g3⟩)
            obtain ⟨g30, g31⟩ := g3
            clear g2
            go_wp2_with fail
            refine (hv_yes HG2.out _).mono ?_
            rintro e w' ⟨rfl, rfl⟩
            go_upto_region 10 with (fail)
            obtain ⟨W, hW⟩ : ∃ W, wr.alloc (.cells #[.int .i64 x, .int .i64 y, .int .i64 z] 24) = W := ⟨_, rfl⟩
            have HBX : Hid (Has W wr.heap.size #[.int .i64 x, .int .i64 y, .int .i64 z] 24) := Lib.hid (by rw [← hW]; exact Has.new wr _ _)
            replace HB : Hid (Below w.heap.size w W) := Lib.hid (by rw [← hW]; exact HB.out.alloc hs _)
            rw [hW]
            clear hW hc0 hc1 hc2 had
            obtain ⟨bx, hbx⟩ : ∃ b, wr.heap.size = b := ⟨_, rfl⟩
            rw [hbx] at HBX ⊢
            clear hbx hs
            have hs := HB.out.size
            cases k with
            | zero =>
              have HG : Hid (scan (Xc.rc f) (n - (0 + 1)) (0 + 1) = S) := Lib.hid (by rw [← scan_go _ hlt (Xc.rc_fine HG1.out HG3.out (fun c => by omega))]; exact HS.out)
              have hd : decide ((0 : Int) < ((0 : Nat) : Int)) = false := by decide
              go_quiet (fail)
              go_wp2_with fail
              go_roundw
              case rel => exact ⟨0 + 1, by omega, by first | rfl | go_num, HG, Lib.hid (below_drewN HB.out _)⟩
              case measure => simp [intOf]; omega
            | succ j =>
              obtain ⟨b', o', e', had, hd0, hd1, hd2⟩ := ((HP.out.below HB.out).mono hs).get (j := j) (by omega)
              simp only [Option.some.injEq, Addr.mk.injEq, and_true] at e'
              obtain ⟨rfl, rfl⟩ := e'
              obtain ⟨⟨p, q, r⟩, hx'⟩ : ∃ x, f j = x := ⟨_, rfl⟩
              rw [hx'] at hd0 hd1 hd2
              simp only at hd0 hd1 hd2
              obtain ⟨BB, hBB⟩ : ∃ B, decide (Xc.aft ⟨p, q, r⟩ ⟨x, y, z⟩) = B := ⟨_, rfl⟩
              have CA := Lib.hid fun W : World => after_any ⟨p, q, r⟩ ⟨x, y, z⟩ BB W hBB
              simp only at CA
              have HBB : Hid (decide (Xc.aft (f (j + 1 - 1)) (f (j + 1))) = BB) := Lib.hid (by rw [Nat.add_sub_cancel, hx', HX.out]; exact hBB)
              clear hx' hBB
              obtain ⟨u0, u1, u2⟩ := HBX.out.rules
              have v0 := u0 0
              have v1 := u0 1
              have v2 := u0 2
              simp only [List.getElem?_toArray, List.getElem?_cons_zero, List.getElem?_cons_succ] at v0 v1 v2
              have v2' : W.cell? ⟨bx, 1 + 1, none⟩ = some (.int .i64 z) := v2
              have hw : IntKind.i64.wrap (((j + 1 : Nat) : Int) - 1) = j := by rw [IntKind.wrap_i64]; omega
              have hw' : IntKind.i64.wrap (j : Int) = j := by rw [IntKind.wrap_i64]; omega
              have hj0 : (0 : Int) ≤ j := by omega
              have hj1 : (j : Int) < n := by omega
              have hj2 : (0 : Int) < ((j + 1 : Nat) : Int) := by omega
              clear u0 u1
              go_cut [48] (fun v wx => v = .bool (!BB) ∧ Hid (Below w.heap.size w wx))
              case first =>
                go_region_held3 (fun w' => (w'.cell? ⟨b, o + j * 3, none⟩ = some (.int .i64 p) ∧ w'.cell? ⟨b, o + j * 3 + 1, none⟩ = some (.int .i64 q) ∧ w'.cell? ⟨b, o + j * 3 + 1 + 1, none⟩ = some (.int .i64 r)) ∧ w'.cell? ⟨bx, 0, none⟩ = some (.int .i64 x) ∧ w'.cell? ⟨bx, 1, none⟩ = some (.int .i64 y) ∧ w'.cell? ⟨bx, 1 + 1, none⟩ = some (.int .i64 z)) (first | exact HSS.out | go_keep) (first
                  | (go_at_call 29; refine (CA.out _).mono ?_; rintro e w' ⟨rfl, hb⟩; have HSS : Hid ((w'.cell? ⟨b, o + j * 3, none⟩ = some (.int .i64 p) ∧ w'.cell? ⟨b, o + j * 3 + 1, none⟩ = some (.int .i64 q) ∧ w'.cell? ⟨b, o + j * 3 + 1 + 1, none⟩ = some (.int .i64 r)) ∧ w'.cell? ⟨bx, 0, none⟩ = some (.int .i64 x) ∧ w'.cell? ⟨bx, 1, none⟩ = some (.int .i64 y) ∧ w'.cell? ⟨bx, 1 + 1, none⟩ = some (.int .i64 z)) := Lib.hid ⟨⟨(hb.cell had).trans hd0, (hb.cell had).trans hd1, (hb.cell had).trans hd2⟩, (hb.cell u2).trans v0, (hb.cell u2).trans v1, (hb.cell u2).trans v2'⟩; have HV : Hid (Below w.heap.size w w') := Lib.hid ((below_drewN HB.out 1).trans (hb.mono hs)); clear hb))
                all_goals
                  go_wp2_with fail
                  go_meet
                  case rel => exact ⟨rfl, HV⟩
              case rest =>
                obtain ⟨rfl, HV⟩ := hcut
                cases BB with
                | true =>
                  have HG : Hid (scan (Xc.rc f) (n - (j + 1 + 1)) (j + 1 + 1) = S) := Lib.hid (by rw [← scan_go _ hlt (Xc.rc_fine HG1.out HG3.out (fun c => c.2 (of_decide_eq_true HBB.out)))]; exact HS.out)
                  go_wp2_with fail
                  go_roundw
                  case rel => exact ⟨j + 1 + 1, by omega, by first | rfl | go_num, HG, HV⟩
                  case measure => simp [intOf]; omega
                | false =>
                  have he := Xc.rc_order HG1.out HG3.out ⟨by omega, of_decide_eq_false HBB.out⟩
                  have HG : Hid ((13 : Int) = S) := Lib.hid (by rw [← HS.out, scan_stop _ hlt (by rw [he]; omega), he])
                  clear he
                  go_wp2_with fail
                  go_ret
                  exact ⟨ret_i64 HG.out, HV.out⟩
          · have he : Xc.rc f k = 1 := Xc.rc_range HG1.out (by rw [HX.out]; exact fun c => g3 c.2)
            have HG : Hid ((1 : Int) = S) := Lib.hid (by rw [← HS.out, scan_stop _ hlt (by rw [he]; omega), he])
            have hh : z < 1 ∨ 1 ≤ z ∧ 1000000000 < z := by omega
            clear he HS g3 g2
            rcases hh with hh | ⟨hh, hh2⟩
            all_goals
              go_wp2_with fail
              refine (hv_yes HG2.out _).mono ?_
              rintro e w' ⟨rfl, rfl⟩
              go_wp2_with fail
              go_ret
              exact ⟨ret_i64 HG.out, HB.out.alloc hs _⟩
        · have HG2 := Lib.hid g2
          have he : Xc.rc f k = 1 := Xc.rc_range HG1.out (by rw [HX.out]; exact fun c => g2 c.1)
          have HG : Hid ((1 : Int) = S) := Lib.hid (by rw [← HS.out, scan_stop _ hlt (by rw [he]; omega), he])
          clear he HS g2
          go_wp2_with fail
          refine (hv_no HG2.out _).mono ?_
          rintro e w' ⟨rfl, rfl⟩
          go_wp2_with fail
          go_ret
          exact ⟨ret_i64 HG.out, HB.out.alloc hs _⟩
      · have he : Xc.rc f k = 15 := Xc.rc_cur (by rw [HX.out]; exact g1)
        have HG : Hid ((15 : Int) = S) := Lib.hid (by rw [← HS.out, scan_stop _ hlt (by rw [he]; omega), he])
        have hh : x < 1 ∨ 1 ≤ x ∧ 15 < x := by omega
        clear he HS g1
        rcases hh with hh | ⟨hh, hh2⟩
        all_goals
          go_wp2_with fail
          go_ret
          exact ⟨ret_i64 HG.out, HB.out.alloc hs _⟩
    · have hkn : k = n := by omega
      have HG : Hid ((0 : Int) = S) := Lib.hid (by rw [← HS.out, hkn, scan_end])
      go_wp2_with fail
      go_ret
      exact ⟨ret_i64 HG.out, HB.out⟩
end Go.Proofs.Ytojpjglkdmmfjaa
