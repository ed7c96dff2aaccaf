/- The events of chapter 28's laws. -/
import Derived.Test.YtlmgfcgakdanaaaLaw28
import Derived.RegionTactic
import Derived.ChangeAlike
namespace Go.Proofs.Ytlmgfcgakdanaaa
open Go.RowKit
set_option linter.unusedVariables false

theorem m2new_any (A : Option Addr) (n c : Nat) (z : Nat → Int) (w : World) (hn : n ≤ 9223372036854775807) (hc : Cells w w.heap.size A n fun j => .int .i64 (z j)) :
    Calls Try.prog 11 #[.slice A n c] w fun e w' => e = .returned (.pointer (some ⟨w.heap.size, 0, none⟩)) ∧ Below w.heap.size w w' ∧ IsDeck w' w.heap.size := by
  have HC := Lib.hid hc
  clear hc
  go_enter Try.func11, Try.ntmps11
  go_wp2_with fail
  refine (deck_new A n c z w hn HC.out).mono ?_
  rintro e w1 ⟨rfl, hb, hd⟩
  have HB := Lib.hid hb
  have HD := Lib.hid hd
  clear hb hd
  go_wp2_with fail
  go_ret
  exact ⟨rfl, HB.out, HD.out⟩

/-- hours and recoveries of up to twelve events -/
def EvPost (w : World) (e : Ending) (w' : World) : Prop := ∃ (gh gl n : Nat) (h l : Nat → Int), e = .returned (.tuple #[.slice (some ⟨gh, 0, none⟩) n n, .slice (some ⟨gl, 0, none⟩) n n]) ∧ n ≤ 12 ∧
  Nums w' w'.heap.size (some ⟨gh, 0, none⟩) n h ∧ Nums w' w'.heap.size (some ⟨gl, 0, none⟩) n l ∧ (∀ i, i < n → 0 ≤ h i ∧ h i ≤ 129) ∧ (∀ i, i < n → 0 ≤ l i ∧ l i ≤ 268435455) ∧ Below w.heap.size w w'

/-- the first k of a row are numbers from 0 to m -/
def Upto (h : Nat → Value) (k : Nat) (m : Int) : Prop := ∀ q, q < k → ∃ x : Int, h q = .int .i64 x ∧ 0 ≤ x ∧ x ≤ m
theorem Upto.step {h : Nat → Value} {k : Nat} {m x : Int} (hh : Upto h k m) (x0 : 0 ≤ x) (x1 : x ≤ m) : Upto (fun i => if i = k then .int .i64 x else h i) (k + 1) m := fun q hq => by
  by_cases e : q = k
  · exact ⟨x, by simp only [if_pos e], x0, x1⟩
  · obtain ⟨y, hy, y0, y1⟩ := hh q (by omega)
    exact ⟨y, by simp only [if_neg e]; exact hy, y0, y1⟩
theorem Upto.nums {h : Nat → Value} {n g : Nat} {m : Int} {w : World} {t : TypeId} (hh : Upto h n m) (hr : Row w g n t h) : ∃ f : Nat → Int, Nums w w.heap.size (some ⟨g, 0, none⟩) n f ∧ ∀ i, i < n → 0 ≤ f i ∧ f i ≤ m := by
  have h' : ∀ q, ∃ x : Int, q < n → h q = .int .i64 x ∧ 0 ≤ x ∧ x ≤ m := fun q => by
    by_cases e : q < n
    · obtain ⟨x, hx⟩ := hh q e
      exact ⟨x, fun _ => hx⟩
    · exact ⟨0, fun c => absurd c e⟩
  obtain ⟨f, hf⟩ := Classical.skolem.1 h'
  exact ⟨f, Cells.congr hr.cells fun j hj => (hf j hj).1, fun i hi => (hf i hi).2⟩

set_option maxRecDepth 100000 in
set_option maxHeartbeats 4000000 in
theorem events28_any (A : Option Addr) (n c : Nat) (z : Nat → Int) (w : World) (hn : n ≤ 9223372036854775807) (hc : Cells w w.heap.size A n fun j => .int .i64 (z j)) :
    Calls Try.prog 20 #[.slice A n c] w (EvPost w) := by
  have HC := Lib.hid hc
  obtain ⟨i0, hi0, hz0, hz1, hz2⟩ := info_parts i64_info
  have HI := Lib.hid hi0
  have HZ0 := Lib.hid hz0
  have HZ1 := Lib.hid hz1
  have HZ2 := Lib.hid hz2
  clear hc hi0 hz0 hz1 hz2
  go_enter Try.func20, Try.ntmps20
  go_wp2_with fail
  refine (m2new_any A n c z w hn HC.out).mono ?_
  rintro e w1 ⟨rfl, hb, hd⟩
  have HB := Lib.hid hb
  have HD := Lib.hid hd
  obtain ⟨b, hbb⟩ : ∃ b, w.heap.size = b := ⟨_, rfl⟩
  have HWB := Lib.hid hbb
  rw [hbb] at HD ⊢
  clear hb hd hbb HC
  go_wp2_with fail
  refine (next_any b 13 _ HD.out (by omega) (by omega)).mono ?_
  rintro e w2 ⟨m0, rfl, m0l, m0h, hk2, hd2⟩
  replace HD := Lib.hid hd2
  replace HB : Hid (Below w.heap.size w w2) := Lib.hid (HB.out.trans (hk2.below (by have := HWB.out; omega) HB.out.size))
  clear hk2 hd2
  obtain ⟨m, rfl⟩ : ∃ m : Nat, m0 = m := ⟨m0.toNat, by omega⟩
  go_wp2_with fail
  have hs2 := HB.out.size
  obtain ⟨W1, hmk, ho, hg⟩ := run_make_full (P := Try.prog) w2.drew w.heap.size 24 3 i0 (.int .i64 0) 1 Try.underlying24 HI.out HZ0.out HZ1.out .i64 .i64 m (by rw [HZ2.out]; omega) (by unfold maxLen; omega) hs2
  have hb1 : Below w2.heap.size w2 W1 := (Below.drew (Below.refl w2.heap.size w2)).grown hg (Nat.le_refl _) (fun _ h => by cases h)
  obtain ⟨W2, hmk2, ho2, hg2⟩ := run_make_full (P := Try.prog) W1 w.heap.size 24 3 i0 (.int .i64 0) 1 Try.underlying24 HI.out HZ0.out HZ1.out .i64 .i64 m (by rw [HZ2.out]; omega) (by unfold maxLen; omega) (Nat.le_trans hs2 hb1.size)
  have hb2 : Below W1.heap.size W1 W2 := (Below.refl W1.heap.size W1).grown hg2 (Nat.le_refl _) (fun _ h => by cases h)
  obtain ⟨p0, hr1⟩ := Row.some_made ho
  obtain ⟨q0, hr2⟩ := Row.some_made ho2
  have hlt1 := hr1.lt
  have HR1 : Hid (Row W2 w2.heap.size m 3 p0) := Lib.hid (Row.below hr1 hb2 hlt1)
  have HR2 : Hid (Row W2 W1.heap.size m 3 q0) := Lib.hid hr2
  have hne : w2.heap.size < W1.heap.size := hlt1
  have HB2 : Hid (Below w.heap.size w W2) := Lib.hid ((HB.out.trans (hb1.mono hs2)).trans (hb2.mono (Nat.le_trans hs2 hb1.size)))
  have HD2 : Hid (IsDeck W2 b) := Lib.hid ((HD.out.below hb1 HD.out.lt).below hb2 (Nat.lt_of_lt_of_le HD.out.lt hb1.size))
  have hbl := HD.out.lt
  clear ho ho2 hg hg2 hr1 hr2 hb1 hb2 hlt1 HB HD
  go_cut [6, 7] (fun u v wx => ∃ (gh gl : Nat) (p q : Nat → Value), u = .slice (some ⟨gh, 0, none⟩) m m ∧ v = .slice (some ⟨gl, 0, none⟩) m m ∧ gh ≠ gl ∧ b < gh ∧ b < gl ∧ Hid (Row wx gh m 3 p) ∧ Hid (Row wx gl m 3 q) ∧ Hid (Below w.heap.size w wx) ∧ Hid (IsDeck wx b))
  case first =>
    go_region
    all_goals
      go_wp2_with fail
      go_meet
    · exact ⟨w2.heap.size, W1.heap.size, p0, q0, rfl, rfl, by omega, by omega, by omega, HR1, HR2, HB2, HD2⟩
    · exact ⟨W1.heap.size, w2.heap.size, q0, p0, rfl, rfl, by omega, by omega, by omega, HR2, HR1, HB2, HD2⟩
  case rest =>
    obtain ⟨gh, gl, p, q, rfl, rfl, hgn, hbh, hbl2, HR1, HR2, HB, HD⟩ := hcut
    clear hmk hmk2 hne hs2 HB2 HD2
    go_wp2_with fail
    go_loopw [8, 19] (fun _ i wr => ∃ k : Nat, k ≤ m ∧ i = .int .i64 k ∧ (∃ p q : Nat → Value, Hid (Row wr gh m 3 p) ∧ Hid (Row wr gl m 3 q) ∧ Hid (Upto p k 129) ∧ Hid (Upto q k 268435455)) ∧ Hid (Below w.heap.size w wr) ∧ Hid (IsDeck wr b)) (fun _ i _ => m - (intOf i).toNat)
    case atStart => exact ⟨0, Nat.zero_le _, rfl, ⟨p, q, HR1, HR2, Lib.hid fun _ h => absurd h (by omega), Lib.hid fun _ h => absurd h (by omega)⟩, HB, HD⟩
    case round =>
      clear HR1 HR2 HB HD
      clear p q
      obtain ⟨k, hk, rfl, ⟨p, q, HR1, HR2, HU1, HU2⟩, HB, HD⟩ := hrel
      by_cases hlt : k < m
      · have hk0 : (0 : Int) ≤ k := by omega
        have hk1 : (k : Int) < m := by omega
        go_wp2_with fail
        refine (next_any b 130 _ HD.out (by omega) (by omega)).mono ?_
        rintro e w4 ⟨x, rfl, x0, x1, hk2, hd2⟩
        replace HR1 := Lib.hid (HR1.out.keeps hk2 (by omega))
        replace HR2 := Lib.hid (HR2.out.keeps hk2 (by omega))
        replace HB : Hid (Below w.heap.size w w4) := Lib.hid (HB.out.trans (hk2.below (Nat.le_of_eq HWB.out) HB.out.size))
        replace HD := Lib.hid hd2
        clear hk2 hd2
        go_wp2_with fail
        refine (small_any b _ HD.out).mono ?_
        rintro e w5 ⟨y, rfl, y0, y1, hk2, hd2⟩
        replace HR1 := Lib.hid (HR1.out.keeps hk2 (by omega))
        replace HR2 := Lib.hid (HR2.out.keeps hk2 (by omega))
        replace HB : Hid (Below w.heap.size w w5) := Lib.hid (HB.out.trans (hk2.below (Nat.le_of_eq HWB.out) HB.out.size))
        replace HD := Lib.hid hd2
        clear hk2 hd2
        have r1 := HR1.out.cell k hlt
        have f1 := HR1.out.free k
        have r2 := HR2.out.cell k hlt
        have f2 := HR2.out.free k
        have hgn2 : gl ≠ gh := fun h => hgn h.symm
        have hwb : w.heap.size ≤ b := Nat.le_of_eq HWB.out
        go_wp2_with fail
        go_roundw
        case rel => exact ⟨k + 1, by omega, by go_num, ⟨_, _, Lib.hid ((HR1.out.put k (.int .i64 x)).far (p := ⟨gl, k, none⟩) hgn (.int .i64 y)), Lib.hid ((HR2.out.far (p := ⟨gh, k, none⟩) hgn2 (.int .i64 x)).put k (.int .i64 y)), Lib.hid (HU1.out.step x0 (by omega)), Lib.hid (HU2.out.step y0 y1)⟩, Lib.hid ((HB.out.setCell (p := ⟨gh, k, none⟩) (by simp only; omega) _).setCell (p := ⟨gl, k, none⟩) (by simp only; omega) _), Lib.hid ((HD.out.far (p := ⟨gh, k, none⟩) hbh _).far (p := ⟨gl, k, none⟩) hbl2 _)⟩
        case measure => simp [intOf]; omega
      · have hkn : m = k := by omega
        have hd : decide ((k : Int) < m) = false := by rw [decide_eq_false_iff_not]; omega
        have HV1 : Hid (Upto p m 129) := Lib.hid (by rw [hkn]; exact HU1.out)
        have HV2 : Hid (Upto q m 268435455) := Lib.hid (by rw [hkn]; exact HU2.out)
        clear hkn HU1 HU2
        go_wp2_with fail
        go_ret2
        obtain ⟨h, hn1, hb1⟩ := HV1.out.nums HR1.out
        obtain ⟨l, hn2, hb2⟩ := HV2.out.nums HR2.out
        exact ⟨gh, gl, m, h, l, rfl, by omega, hn1, hn2, hb1, hb2, HB.out⟩

/-- a treaty in block T that the call has made -/
structure RnSt (w : World) (T : Nat) (t : Ty) (W : World) : Prop where
  box : t.Box W T
  ins : t.In W T
  below : Below w.heap.size w W
  wT : w.heap.size ≤ T
section
variable {w W W' : World} {T : Nat} {t : Ty}
theorem RnSt.lt (h : RnSt w T t W) : T < W.heap.size := h.box.lt
theorem RnSt.next (h : RnSt w T t W) (hb : Below W.heap.size W W') : RnSt w T t W' :=
  have hT := h.lt
  ⟨h.box.below hb hT, h.ins.below (hb.mono (Nat.le_of_lt hT)), h.below.trans (hb.mono h.below.size), h.wT⟩
theorem RnSt.drewN (h : RnSt w T t W) (n : Nat) : RnSt w T t (W.drewN n) := h.next (below_drewN (Below.refl _ _) n)
theorem RnSt.inn (h : RnSt w T t W) : t.In W W.heap.size := h.ins.mono (Nat.le_of_lt h.lt)
theorem RnSt.nums {A : Option Addr} {n : Nat} {f : Nat → Int} (h : RnSt w T t W) (hn : Nums w w.heap.size A n f) : Nums W W.heap.size A n f := (hn.below h.below).mono h.below.size
end
def cnt (er : Int) (n : Nat) : Nat := if er = 0 then n else 0
theorem cnt_le (er : Int) (n : Nat) : cnt er n ≤ n := by unfold cnt; split <;> omega
theorem UsesPost.both {er : Int} {n : Nat} {U : Nat → T3} {w w' : World} {e : Ending} (h : UsesPost er n U w e w') :
    ∃ (A : Option Addr) (c : Nat), e = .returned (.tuple #[.slice A (cnt er n) c, .int .i64 er]) ∧ Trips w' w'.heap.size A (cnt er n) U ∧ Below w.heap.size w w' := by
  rcases h with ⟨h1, h2, h3⟩ | ⟨h1, g, c, h2, _, h4, h5⟩
  · have e : cnt er n = 0 := if_neg h1
    rw [e]
    exact ⟨none, 0, h2, Trips.zero, h3⟩
  · have e : cnt er n = n := if_pos h1
    rw [e, h1]
    exact ⟨_, c, h2, h4, h5⟩
/-- Apply, in one form for good and bad arguments -/
def BothPost (er : Int) (m : Nat) (U : Nat → T3) (w : World) (e : Ending) (w' : World) : Prop := ∃ (A : Option Addr) (c : Nat), e = .returned (.tuple #[.slice A m c, .int .i64 er]) ∧ Trips w' w'.heap.size A m U ∧ Below w.heap.size w w'
end Go.Proofs.Ytlmgfcgakdanaaa
