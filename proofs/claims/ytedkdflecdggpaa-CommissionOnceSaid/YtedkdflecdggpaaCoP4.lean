/- commission.Profit. -/
import Derived.Test.YtedkdflecdggpaaCoP3
import Derived.BigQuiet
import Derived.Laws.EntriesVeiled
namespace Go.Proofs.Ytedkdflecdggpaa
open Go.RowKit
set_option linter.unusedVariables false

/-- accounts and an error: with an error no accounts -/
def ProfPost (er : Int) (n : Nat) (F : Nat → Nat → Int) (w : World) (e : Ending) (w' : World) : Prop :=
  ∃ (A : Option Addr) (m cap : Nat), e = .returned (.tuple #[.slice A m cap, .int .i64 er]) ∧ Below w.heap.size w w' ∧ (m = if er = 0 then n else 0) ∧ (er = 0 → Quads w' w'.heap.size A n F)

theorem Co.yc_bad {p l : Nat → Int} {i : Nat} (h : ¬ Co.yearP p l i) : Co.yc p l i = 1 := by rw [Co.yc, if_neg h]
theorem Co.yc_fine {p l : Nat → Int} {i : Nat} (h : Co.yearP p l i) : Co.yc p l i = 0 := by rw [Co.yc, if_pos h]

theorem ProfPost.fail {er : Int} {n : Nat} {F : Nat → Nat → Int} {w w' : World} (h : er ≠ 0) (hb : Below w.heap.size w w') : ProfPost er n F w (.returned (.tuple #[.slice none 0 0, .int .i64 er])) w' :=
  ⟨none, 0, 0, rfl, hb, by rw [if_neg h], fun h0 => absurd h0 h⟩

set_option maxRecDepth 100000 in
set_option maxHeartbeats 4000000 in
theorem cprofit_any (A : Option Addr) (n ca : Nat) (p l : Nat → Int) (x rt cr : Int) (w : World) (hn : n ≤ 9223372036854775807) (hp : Pairs w w.heap.size A n p l) :
    Calls Try.prog 18 #[.slice A n ca, .int .i64 x, .int .i64 rt, .int .i64 cr] w (ProfPost (Co.perr n p l x rt cr) n (Co.acct p l x rt cr.toNat) w) := by
  have hn0 : (0 : Int) ≤ n := by omega
  by_cases h20 : 20 < n
  · rw [show Co.perr n p l x rt cr = 4 from if_pos h20]
    have h1 : (20 : Int) < n := by omega
    clear hp
    go_enter Try.func18, Try.ntmps18
    go_wp2
    go_ret2
    exact ProfPost.fail (by omega) (by (repeat' (first | (with_reducible exact Below.refl _ _) | (with_reducible refine Below.setCell ?_ ?_ _) | (with_reducible refine below_drewN ?_ _) | (with_reducible refine Below.drew ?_) | (with_reducible refine Below.alloc ?_ ?_ _))) <;> (first | omega | (simp <;> omega)))
  have h1 : (n : Int) ≤ 20 := by omega
  obtain ⟨W0, hW0⟩ : ∃ W, ((w.alloc (.cells #[.int .i64 x] 3)).alloc (.cells #[.int .i64 rt] 3)).alloc (.cells #[.int .i64 cr] 3) = W := ⟨_, rfl⟩
  have HX : Hid (Has W0 w.heap.size #[.int .i64 x] 3) := Lib.hid (by rw [← hW0]; exact ((Has.new w _ _).alloc _).alloc _)
  have HR : Hid (Has W0 (w.heap.size + 1) #[.int .i64 rt] 3) := Lib.hid (by rw [← hW0]; exact (Has.new' _ _ _ _ (by simp)).alloc _)
  have HC : Hid (Has W0 (w.heap.size + 1 + 1) #[.int .i64 cr] 3) := Lib.hid (by rw [← hW0]; exact Has.new' _ _ _ _ (by simp))
  have hsz : W0.heap.size = w.heap.size + 1 + 1 + 1 := by rw [← hW0]; simp
  have HB0 : Hid (Below w.heap.size w W0) := Lib.hid (by rw [← hW0]; exact (by (repeat' (first | (with_reducible exact Below.refl _ _) | (with_reducible refine Below.setCell ?_ ?_ _) | (with_reducible refine below_drewN ?_ _) | (with_reducible refine Below.drew ?_) | (with_reducible refine Below.alloc ?_ ?_ _))) <;> (first | omega | (simp <;> omega))))
  have HP := Lib.hid hp
  obtain ⟨a0, a1, a2⟩ := HX.out.rules
  obtain ⟨b0, b1, b2⟩ := HR.out.rules
  obtain ⟨d0, d1, d2⟩ := HC.out.rules
  by_cases hx : ¬ (0 ≤ x ∧ x ≤ 1000000)
  · have HXX := Lib.hid hx
    rw [show Co.perr n p l x rt cr = 1 from by rw [Co.perr, if_neg h20, if_pos (fun c => hx c.1)]]
    clear hp hx
    go_enter Try.func18, Try.ntmps18
    go_wp2_with fail
    refine (cno HXX.out _).mono ?_
    rintro e w' ⟨rfl, rfl⟩
    go_wp2
    go_ret2
    exact ProfPost.fail (by omega) HB0.out
  replace hx := Decidable.of_not_not hx
  have HXX := Lib.hid hx
  by_cases hr : ¬ (0 ≤ rt ∧ rt ≤ 1000000)
  · have HRR := Lib.hid hr
    rw [show Co.perr n p l x rt cr = 1 from by rw [Co.perr, if_neg h20, if_pos (fun c => hr c.2.1)]]
    clear hp hx hr
    go_enter Try.func18, Try.ntmps18
    go_wp2_with fail
    refine (cyes HXX.out _).mono ?_
    rintro e w' ⟨rfl, rfl⟩
    go_wp2_with fail
    refine (cno HRR.out _).mono ?_
    rintro e w' ⟨rfl, rfl⟩
    go_wp2
    go_ret2
    exact ProfPost.fail (by omega) HB0.out
  replace hr := Decidable.of_not_not hr
  have HRR := Lib.hid hr
  by_cases hc : ¬ (0 ≤ cr ∧ cr ≤ 20)
  · have HCC := Lib.hid hc
    rw [show Co.perr n p l x rt cr = 1 from by rw [Co.perr, if_neg h20, if_pos (fun c => hc c.2.2)]]
    clear hp hx hr hc
    go_enter Try.func18, Try.ntmps18
    go_wp2_with fail
    refine (cyes HXX.out _).mono ?_
    rintro e w' ⟨rfl, rfl⟩
    go_wp2_with fail
    refine (cyes HRR.out _).mono ?_
    rintro e w' ⟨rfl, rfl⟩
    go_wp2_with fail
    refine (cno HCC.out _).mono ?_
    rintro e w' ⟨rfl, rfl⟩
    go_wp2
    go_ret2
    exact ProfPost.fail (by omega) HB0.out
  replace hc := Decidable.of_not_not hc
  have HCC := Lib.hid hc
  obtain ⟨S, hS⟩ : ∃ S, scan (Co.yc p l) (n - 0) 0 = S := ⟨_, rfl⟩
  have HPE : Hid (Co.perr n p l x rt cr = S) := Lib.hid (by rw [Co.perr, if_neg h20, if_neg (fun c => c ⟨hx, hr, hc⟩)]; exact hS)
  rw [HPE.out]
  have HS1 := Lib.hid hS
  obtain ⟨c, rfl⟩ : ∃ c : Nat, cr = c := ⟨cr.toNat, by omega⟩
  rw [Int.toNat_natCast]
  clear hp hx hr hc hS h20
  go_enter Try.func18, Try.ntmps18
  go_wp2_with fail
  refine (cyes HXX.out _).mono ?_
  rintro e w' ⟨rfl, rfl⟩
  go_wp2_with fail
  refine (cyes HRR.out _).mono ?_
  rintro e w' ⟨rfl, rfl⟩
  go_wp2_with fail
  refine (cyes HCC.out _).mono ?_
  rintro e w' ⟨rfl, rfl⟩
  go_wp2_with fail
  clear a0 a1 a2 b0 b1 b2 d0 d1 d2 hW0
  go_loopw [11, 34] (fun _ i wr => ∃ k : Nat, k ≤ n ∧ i = .int .i64 k ∧ Hid (scan (Co.yc p l) (n - k) k = S) ∧ Hid (Below W0.heap.size W0 wr)) (fun _ i _ => n - (intOf i).toNat)
  case atStart => exact ⟨0, Nat.zero_le _, rfl, HS1, Lib.hid (Below.refl _ _)⟩
  case round =>
    clear HS1
    obtain ⟨k, hk, rfl, HS, HB⟩ := hrel
    have hs := HB.out.size
    have HBB : Hid (Below w.heap.size w wr) := Lib.hid (HB0.out.trans (HB.out.mono HB0.out.size))
    have hss := HBB.out.size
    by_cases hlt : k < n
    · obtain ⟨b, o, rfl, had, hc0, hc1⟩ := ((HP.out.below HBB.out).mono hss).get hlt
      have hk1 : (k : Int) < n := by omega
      obtain ⟨pk, hpk⟩ : ∃ q, p k = q := ⟨_, rfl⟩
      obtain ⟨lk, hlk⟩ : ∃ q, l k = q := ⟨_, rfl⟩
      rw [hpk] at hc0
      rw [hlk] at hc1
      by_cases hh : 0 ≤ pk ∧ pk ≤ 68719476736
      · have HHH := Lib.hid hh
        by_cases hi : 0 ≤ lk ∧ lk ≤ 68719476736
        · have HII := Lib.hid hi
          have HG : Hid (scan (Co.yc p l) (n - (k + 1)) (k + 1) = S) := Lib.hid (by rw [← scan_go _ hlt (Co.yc_fine ⟨by rw [hpk]; exact hh, by rw [hlk]; exact hi⟩)]; exact HS.out)
          clear HS hh hi hpk hlk
          go_wp2_with fail
          refine (cyes HHH.out _).mono ?_
          rintro e w' ⟨rfl, rfl⟩
          go_wp2_with fail
          refine (cyes HII.out _).mono ?_
          rintro e w' ⟨rfl, rfl⟩
          go_wp2_with fail
          go_roundw
          case rel => exact ⟨k + 1, by omega, by go_num, HG, Lib.hid (HB.out.alloc hs _)⟩
          case measure => simp [intOf]; omega
        · have HII := Lib.hid hi
          have hcc := Co.yc_bad (p := p) (l := l) (i := k) (fun c => hi (by rw [← hlk]; exact c.2))
          have HG : Hid (S = 1) := Lib.hid (by rw [← HS.out, scan_stop _ hlt (by rw [hcc]; omega), hcc])
          clear HS hh hi hpk hlk hcc
          rw [HG.out]
          go_wp2_with fail
          refine (cyes HHH.out _).mono ?_
          rintro e w' ⟨rfl, rfl⟩
          go_wp2_with fail
          refine (cno HII.out _).mono ?_
          rintro e w' ⟨rfl, rfl⟩
          go_wp2_with fail
          go_ret2
          exact ProfPost.fail (by omega) (HBB.out.alloc hss _)
      · have HHH := Lib.hid hh
        have hcc := Co.yc_bad (p := p) (l := l) (i := k) (fun c => hh (by rw [← hpk]; exact c.1))
        have HG : Hid (S = 1) := Lib.hid (by rw [← HS.out, scan_stop _ hlt (by rw [hcc]; omega), hcc])
        clear HS hh hpk hlk hcc
        rw [HG.out]
        go_wp2_with fail
        refine (cno HHH.out _).mono ?_
        rintro e w' ⟨rfl, rfl⟩
        go_wp2_with fail
        go_ret2
        exact ProfPost.fail (by omega) (HBB.out.alloc hss _)
    · obtain rfl : k = n := by omega
      have HS0 : Hid (S = 0) := Lib.hid (by rw [← HS.out, scan_end])
      have HF := Lib.hid (Co.perr_fine (HPE.out.trans HS0.out))
      clear HS HPE
      go_wp2_with fail
      obtain ⟨W1, hW1⟩ : ∃ W, ((wr.alloc (.cells #[.slice none 0 0] 23)).alloc (.cells #[.int .i64 0] 27)).alloc (.cells #[.func (.func 34) #[] #[.pointer (some ⟨wr.heap.size + 1, 0, none⟩)]] 34) = W := ⟨_, rfl⟩
      have hB1 : Below wr.heap.size wr W1 := by rw [← hW1]; exact (by (repeat' (first | (with_reducible exact Below.refl _ _) | (with_reducible refine Below.setCell ?_ ?_ _) | (with_reducible refine below_drewN ?_ _) | (with_reducible refine Below.drew ?_) | (with_reducible refine Below.alloc ?_ ?_ _))) <;> (first | omega | (simp <;> omega)))
      have hsz1 : W1.heap.size = wr.heap.size + 1 + 1 + 1 := by rw [← hW1]; simp
      have HEN : Hid (PEnv W1 (wr.heap.size + 1 + 1) w.heap.size wr.heap.size (w.heap.size + 1 + 1) (w.heap.size + 1) (wr.heap.size + 1) x c rt (.slice none 0 0)) := Lib.hid
        ⟨by rw [← hW1]; exact Has.new' _ _ _ _ (by simp), (HX.out.below HB.out (by omega)).below hB1 (by omega), (HC.out.below HB.out (by omega)).below hB1 (by omega), (HR.out.below HB.out (by omega)).below hB1 (by omega),
          by rw [← hW1]; exact (Has.new' _ _ _ _ (by simp)).alloc _, by rw [← hW1]; exact ((Has.new _ _ _).alloc _).alloc _⟩
      have HLI : Hid (PLie W1.heap.size (wr.heap.size + 1 + 1) w.heap.size wr.heap.size (w.heap.size + 1 + 1) (w.heap.size + 1) (wr.heap.size + 1)) := Lib.hid ⟨by omega, by omega, by omega, by omega, by omega, by omega, by omega, by omega, by omega, by omega, by omega⟩
      have HB2 : Hid (Below w.heap.size w W1) := Lib.hid (HBB.out.trans (hB1.mono hss))
      have HP2 : Hid (Pairs W1 W1.heap.size A k p l) := Lib.hid ((HP.out.below HB2.out).mono HB2.out.size)
      have HA2 : Hid (∀ ad, A = some ad → 0 < k → ad.block ≠ wr.heap.size) := Lib.hid fun ad e h0 => by
        obtain ⟨ad', e', hlt', _⟩ := HP.out (by omega)
        rw [e] at e'
        injection e' with e'
        subst e'
        omega
      have CC : Hid (Calls Try.prog 36 #[.slice A k ca, .func (.func 37) #[] #[.pointer (some ⟨wr.heap.size + 1 + 1, 0, none⟩), .pointer (some ⟨w.heap.size, 0, none⟩), .pointer (some ⟨wr.heap.size, 0, none⟩), .pointer (some ⟨w.heap.size + 1 + 1, 0, none⟩), .pointer (some ⟨w.heap.size + 1, 0, none⟩)]] W1
          (ConPost (wr.heap.size + 1 + 1) w.heap.size wr.heap.size (w.heap.size + 1 + 1) (w.heap.size + 1) (wr.heap.size + 1) x c rt k (Co.acct p l x rt c) W1)) := Lib.hid
        (convert_any A k ca p l _ _ _ _ _ _ x c rt W1 HLI.out HF.out.2.1 HF.out.2.2.1 (by have := HF.out.2.2.2.1.2; omega) HF.out.1 HF.out.2.2.2.2 HEN.out HA2.out HP2.out)
      rw [hW1]
      clear hW1
      refine CC.out.mono ?_
      rintro e w2 ⟨A2, cap, v, rfl, he2, hl2, hq2⟩
      have HQ := Lib.hid hq2
      have HB3 : Hid (Below w.heap.size w w2) := Lib.hid (HB2.out.trans (hl2.below (fun j hj => by omega) HB2.out.size))
      obtain ⟨a0, a1, a2⟩ := he2.fa.rules
      clear hq2 hl2 he2 CC
      go_wp2_with fail
      go_ret2
      exact ⟨A2, k, cap, by rw [HS0.out]; rfl, HB3.out, by rw [HS0.out, if_pos rfl], fun _ => HQ.out⟩
end Go.Proofs.Ytedkdflecdggpaa
