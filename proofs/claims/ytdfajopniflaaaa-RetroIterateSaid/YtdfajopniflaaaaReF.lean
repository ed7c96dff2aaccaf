/- The reference's from: the iteration till nothing changes. -/
import Derived.Test.YtdfajopniflaaaaReS
namespace Go.Proofs.Ytdfajopniflaaaa
open Go.RowKit
set_option linter.unusedVariables false

set_option maxHeartbeats 2000000 in
theorem from_any (A : Option Addr) (n c : Nat) (o : Nat → Int) (A2 : Option Addr) (m c2 : Nat) (R : Nat → Re.Rt) (A3 : Option Addr) (c3 : Nat) (x : Nat → Int) (w : World)
    (hV : Re.verr n o m R = 0) (h : Nums w w.heap.size A n o) (h2 : Rets w w.heap.size A2 m R) (h3 : Nums w w.heap.size A3 n x) (hx : ∀ i, i < n → 0 ≤ x i ∧ x i ≤ 17592186044416) :
    Calls Try.prog 33 #[.slice A n c, .slice A2 m c2, .slice A3 n c3] w (TriPost n (Re.ser (Re.sett (Re.step o m R) n 2000 1 x)) (Re.sett (Re.step o m R) n 2000 1 x) w) := by
  obtain ⟨hf1, hf2, hf3, hfo, hfr⟩ := Re.verr_fine hV
  obtain ⟨S, hS⟩ : ∃ S, Re.sett (Re.step o m R) n (2001 - 1) 1 x = S := ⟨_, rfl⟩
  rw [show Re.sett (Re.step o m R) n 2000 1 x = S from hS]
  have HS1 := Lib.hid hS
  have H := Lib.hid h
  have H2 := Lib.hid h2
  have H3 := Lib.hid h3
  have HFO := Lib.hid hfo
  have HV := Lib.hid hV
  have HX := Lib.hid hx
  clear hS h h2 h3 hfo hfr hV hx
  go_enter Try.func33, Try.ntmps33
  go_wp2_with fail
  go_loopw [2, 9, 10, 11] (fun X i _ _ wr => ∃ (k : Nat) (A3 : Option Addr) (c3 : Nat) (x : Nat → Int), 1 ≤ k ∧ k ≤ 2001 ∧ i = .int .i64 k ∧ X = .slice A3 n c3 ∧ Hid (Re.sett (Re.step o m R) n (2001 - k) k x = S) ∧ Hid (Nums wr wr.heap.size A3 n x) ∧ Hid (∀ i, i < n → 0 ≤ x i ∧ x i ≤ 17592186044416) ∧ Hid (Below w.heap.size w wr) ∧ Hid (∀ ad, A3 = some ad → 1 < k → w.heap.size ≤ ad.block)) (fun _ i _ _ _ => 2001 - (intOf i).toNat)
  case atStart => exact ⟨1, A3, c3, x, by omega, by omega, rfl, rfl, HS1, H3, HX, Lib.hid (Below.refl _ _), Lib.hid fun _ _ h => absurd h (by omega)⟩
  case round =>
    clear HS1 H3 HX
    obtain ⟨k, A3, c3, x, hk1, hk2, rfl, rfl, HS, H3, HX, HB, HFR⟩ := hrel
    have hs := HB.out.size
    by_cases hlt : k ≤ 2000
    · obtain ⟨q, hq⟩ : ∃ q, 2001 - k = q + 1 := ⟨2000 - k, by omega⟩
      have HE0 : Hid (Re.lerr n o m R n x = 0) := Lib.hid (Re.lerr_ok HV.out HX.out)
      have CI := Lib.hid (riterate_any A n c o A2 m c2 R A3 n c3 x wr (by omega) (by omega) (by omega) ((H.out.below HB.out).mono hs) ((H2.out.below HB.out).mono hs) H3.out)
      rw [HE0.out] at CI
      have HQ := Lib.hid hq
      clear hq HE0
      go_wp2_with fail
      refine CI.out.mono ?_
      rintro e w1 ⟨X, mm, c4, rfl, hb, hmm, hnx, hfr⟩
      rw [if_pos rfl] at hmm
      subst hmm
      have HB1 : Hid (Below w.heap.size w w1) := Lib.hid (HB.out.trans (hb.mono hs))
      have H31 := Lib.hid ((H3.out.below hb).mono hb.size)
      have HN := Lib.hid hnx
      have HFR1 : Hid (∀ ad, X = some ad → w.heap.size ≤ ad.block) := Lib.hid fun ad h => Nat.le_trans hs (hfr ad h)
      clear hb hnx hfr CI
      by_cases heq : eqn mm (Re.step o m R x) x
      · have HR : Hid (S = some (Re.step o m R x, k)) := Lib.hid (by rw [← HS.out, HQ.out, Re.sett_stop heq])
        have CE := Lib.hid (same_any A3 X mm c3 c4 x (Re.step o m R x) w1.heap.size w1.heap.size w1 (by omega) H31.out HN.out)
        rw [decide_eq_true ((Re.eqn_comm _ _ _).1 heq)] at CE
        clear heq
        go_wp2_with fail
        refine CE.out.mono ?_
        rintro e w2 ⟨rfl, nq, rfl⟩
        go_wp2_with fail
        go_ret3
        refine ⟨X, mm, c4, by rw [HR.out]; rfl, below_drewN HB1.out _, by rw [HR.out]; rfl, by rw [HR.out]; exact HN.out.drewN _, HFR1.out⟩
      · have HR : Hid (Re.sett (Re.step o m R) mm (2001 - (k + 1)) (k + 1) (Re.step o m R x) = S) := Lib.hid (by rw [← HS.out, HQ.out, Re.sett_go heq, show 2001 - (k + 1) = q by have := HQ.out; omega])
        have CE := Lib.hid (same_any A3 X mm c3 c4 x (Re.step o m R x) w1.heap.size w1.heap.size w1 (by omega) H31.out HN.out)
        rw [decide_eq_false (fun c => heq ((Re.eqn_comm _ _ _).1 c))] at CE
        have HX1 : Hid (∀ i, i < mm → 0 ≤ Re.step o m R x i ∧ Re.step o m R x i ≤ 17592186044416) := Lib.hid fun i hi => by
          have h1 := Re.step_bound o m R x i
          have h2 := HFO.out i hi
          omega
        clear heq
        go_wp2_with fail
        refine CE.out.mono ?_
        rintro e w2 ⟨rfl, nq, rfl⟩
        go_wp2_with fail
        go_roundw
        case rel => exact ⟨k + 1, X, c4, Re.step o m R x, by omega, by omega, by go_num, rfl, HR, Lib.hid (HN.out.drewN _), HX1, Lib.hid (below_drewN HB1.out _), Lib.hid fun ad h _ => HFR1.out ad h⟩
        case measure => simp [intOf]; omega
    · have hkn : k = 2001 := by omega
      have HR : Hid (S = none) := Lib.hid (by rw [← HS.out, hkn]; rfl)
      clear hkn
      go_wp2_with fail
      go_ret3
      have := TriPost.nothing (n := n) (ev := Re.ser S) HR.out HB.out
      rw [HR.out] at this ⊢
      exact this
end Go.Proofs.Ytdfajopniflaaaa
