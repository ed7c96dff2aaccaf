/- retro.Iterate: one step of the iteration. The reference's Validate: the first fault of a market. The reference's list, Iterate and Net; retro.Net (printed by wip/gen/retro.py). The reference's Top (printed by wip/gen/retro.py). The contract of treatymade.Within. The deck of numbers: what its functions return lies in the range that was asked for. -/
import Derived.Test.YtbeikfopneeodaaGreatMt42
import Derived.Test.YtbeikfopneeodaaGreatMt02
import Derived.Deep.AppendLies
import Derived.Deep.RegionLaw
import Derived.Test.YtbeikfopneeodaaGreatProg
import Derived.Test.YtbeikfopneeodaaGreatMt03
import Derived.WalkKit
import Derived.Lib.Hide
import Derived.Test.YtbeikfopneeodaaGreatMt01
import Derived.Outline
namespace Go.Proofs.YtbeikfopneeodaaGreat
open Go.RowKit
set_option linter.unusedVariables false

/-- a new list of n numbers is returned, or an error and no list -/
def RowPost (er : Int) (n : Nat) (f : Nat → Int) (w : World) (e : Ending) (w' : World) : Prop :=
  ∃ (X : Option Addr) (m c : Nat), e = .returned (.tuple #[.slice X m c, .int .i64 er]) ∧ Below w.heap.size w w' ∧ m = (if er = 0 then n else 0) ∧ Nums w' w'.heap.size X m f ∧ ∀ ad, X = some ad → w.heap.size ≤ ad.block

theorem RowPost.err {er : Int} {n : Nat} {f : Nat → Int} {w w' : World} {x : Int} (h : er = x) (hx : x ≠ 0) (hb : Below w.heap.size w w') :
    RowPost er n f w (.returned (.tuple #[.slice none 0 0, .int .i64 x])) w' :=
  ⟨none, 0, 0, by rw [h], hb, by rw [h, if_neg hx], Nums.zero, fun _ h => by cases h⟩

theorem Re.lerr_bad {n : Nat} {o : Nat → Int} {m : Nat} {R : Nat → Re.Rt} {nx : Nat} {x : Nat → Int} (h : Re.verr n o m R ≠ 0) : Re.lerr n o m R nx x = Re.verr n o m R := if_pos h
theorem Re.lerr_len {n : Nat} {o : Nat → Int} {m : Nat} {R : Nat → Re.Rt} {nx : Nat} {x : Nat → Int} (h : Re.verr n o m R = 0) (h2 : nx ≠ n) : Re.lerr n o m R nx x = 4 := by
  rw [Re.lerr, if_neg (by rw [h]; simp), if_pos h2]
theorem Re.lerr_scan {n : Nat} {o : Nat → Int} {m : Nat} {R : Nat → Re.Rt} {x : Nat → Int} (h : Re.verr n o m R = 0) : Re.lerr n o m R n x = scan (Re.xc x) n 0 := by
  rw [Re.lerr, if_neg (by rw [h]; simp), if_neg (by simp)]

set_option maxRecDepth 100000 in
set_option maxHeartbeats 4000000 in
theorem iterate_any (A : Option Addr) (n c : Nat) (o : Nat → Int) (A2 : Option Addr) (m c2 : Nat) (R : Nat → Re.Rt) (A3 : Option Addr) (nx c3 : Nat) (x : Nat → Int) (w : World)
    (hn : n ≤ 9223372036854775807) (hm : m ≤ 9223372036854775807) (hnx : nx ≤ 9223372036854775807) (h : Nums w w.heap.size A n o) (h2 : Rets w w.heap.size A2 m R) (h3 : Nums w w.heap.size A3 nx x) :
    Calls Tryz.prog 10 #[.slice A n c, .slice A2 m c2, .slice A3 nx c3] w (RowPost (Re.lerr n o m R nx x) n (Re.step o m R x) w) := by
  have CV := Lib.hid (rtvalidate_any A n c o A2 m c2 R w hn hm h h2)
  obtain ⟨V, hV⟩ : ∃ V, Re.verr n o m R = V := ⟨_, rfl⟩
  rw [hV] at CV
  by_cases hv : V = 0
  · subst hv
    by_cases hnn : nx = n
    · subst hnn
      obtain ⟨hf1, hf2, hf3, hfo, hfr⟩ := Re.verr_fine hV
      have HT : Hid (Re.lerr nx o m R nx x = scan (Re.xc x) (nx - 0) 0) := Lib.hid (Re.lerr_scan hV)
      obtain ⟨S, hS⟩ : ∃ S, scan (Re.xc x) (nx - 0) 0 = S := ⟨_, rfl⟩
      rw [hS] at HT
      have HS1 := Lib.hid hS
      have H := Lib.hid h
      have H2 := Lib.hid h2
      have H3 := Lib.hid h3
      have HFO := Lib.hid hfo
      have HFR := Lib.hid hfr
      obtain ⟨E, hE⟩ : ∃ E, Re.lerr nx o m R nx x = E := ⟨_, rfl⟩
      rw [hE] at HT ⊢
      obtain ⟨i0, hi0, hz0, hz1, hz2⟩ := info_parts int_info
      have HI := Lib.hid hi0
      have HZ0 := Lib.hid hz0
      have HZ1 := Lib.hid hz1
      have HZ2 := Lib.hid hz2
      clear hi0 hz0 hz1 hz2 hV hS h h2 h3 hfo hfr hE hn hm hnx
      go_enter Tryz.func10, Tryz.ntmps10
      go_wp2_with fail
      refine CV.out.mono ?_
      rintro e w1 ⟨rfl, hb⟩
      have HB := Lib.hid hb
      clear hb CV
      go_wp2_with fail
      go_loopw [10, 27] (fun _ i wr => ∃ k : Nat, k ≤ nx ∧ i = .int .i64 k ∧ Hid (scan (Re.xc x) (nx - k) k = S) ∧ Hid (Below w.heap.size w wr)) (fun _ i _ => nx - (intOf i).toNat)
      case atStart => exact ⟨0, Nat.zero_le _, rfl, HS1, HB⟩
      case round =>
        clear HB
        obtain ⟨k, hk, rfl, HS, HB⟩ := hrel
        have hs := HB.out.size
        by_cases hlt : k < nx
        · obtain ⟨b, of, rfl, had, hc0⟩ := ((H3.out.below HB.out).mono hs).get hlt
          obtain ⟨y, hy⟩ : ∃ y, x k = y := ⟨_, rfl⟩
          rw [hy] at hc0
          by_cases hh : 0 ≤ y ∧ y ≤ 17592186044416
          · have HG : Hid (scan (Re.xc x) (nx - (k + 1)) (k + 1) = S) := Lib.hid (by rw [← scan_go _ hlt (if_pos (by rw [hy]; exact hh))]; exact HS.out)
            obtain ⟨hh0, hh1⟩ := hh
            clear hy HS
            go_wp2_with fail
            go_roundw
            case rel => exact ⟨k + 1, by omega, by go_num, HG, HB⟩
            case measure => simp [intOf]; omega
          · have he : Re.xc x k = 1 := if_neg (by rw [hy]; exact hh)
            have HG : Hid (1 = S) := Lib.hid (by rw [← HS.out, scan_stop _ hlt (by rw [he]; omega), he])
            have hh' : y < 0 ∨ 0 ≤ y ∧ 17592186044416 < y := by omega
            clear hy HS hh he
            rcases hh' with hh | ⟨hh, hh2⟩
            all_goals
              go_wp2_with fail
              go_ret2
              exact RowPost.err (by rw [HT.out, ← HG.out]) (by omega) HB.out
        · have hkn : k = nx := by omega
          have hS0 : S = 0 := by rw [← HS.out, hkn, scan_end]
          have hE0 : E = 0 := by rw [HT.out, hS0]
          have HE0 := Lib.hid hE0
          have HFX : Hid (∀ i, i < nx → 0 ≤ x i ∧ x i ≤ 17592186044416) := Lib.hid fun i hi => by
            have := scan_zero (Re.xc x) (nx - 0) 0 (by rw [HS1.out, hS0]) i (by omega) (by omega)
            by_cases c : 0 ≤ x i ∧ x i ≤ 17592186044416
            · exact c
            · rw [Re.xc, if_neg c] at this; omega
          clear hS0 hE0 HS HS1 HT hkn
          obtain ⟨b1, of1, hA, hb1, _⟩ := ((H.out.below HB.out).mono hs).get (j := 0) (by omega)
          subst hA
          have HN : Hid (∀ j u, (numsL nx o)[j]? = some u → wr.cell? ((⟨b1, of1, none⟩ : Addr).add j) = some u) := Lib.hid (Nums.news (H.out.below HB.out))
          go_wp2_with ((at_builtin; refine wpList_append_lies _ rfl _ _ 22 rfl w.heap.size 3 i0 _ 1 8 Tryz.underlying22 HI.out HZ0.out HZ1.out HZ2.out rfl (by omega) (.slice none 0 0) 0 [] rfl ⟨rfl, .inl ⟨rfl, rfl⟩⟩ ⟨b1, of1, none⟩ nx c (numsL nx o) rfl (by rw [numsL_length, Nat.mul_one]) HN.out (numsL_one nx o) (by omega) (by unfold maxLen; omega) (by omega) hs wr.heap.size rfl ?_; intro g cap w2 hown hgrow hat hlt2))
          simp only [Nat.zero_add, List.nil_append] at hown
          have HO : Hid (OwnN w2 w.heap.size g nx cap (Re.acc o (Re.toN R) (Re.ceds R x) 0)) := Lib.hid hown
          have HB2 : Hid (Below w.heap.size w w2) := Lib.hid (HB.out.grown hgrow hs (fun _ h => by cases h))
          clear hown hgrow hat hlt2 HN hb1 hlt
          go_wp2_with fail
          go_loopw [13, 42] (fun _ i wr => ∃ k : Nat, k ≤ m ∧ i = .int .i64 k ∧ Hid (OwnN wr w.heap.size g nx cap (Re.acc o (Re.toN R) (Re.ceds R x) k)) ∧ Hid (Below w.heap.size w wr)) (fun _ i _ => m - (intOf i).toNat)
          case atStart => exact ⟨0, Nat.zero_le _, rfl, HO, HB2⟩
          case round =>
            clear HO HB2 HB hs
            obtain ⟨k, hk, rfl, HO, HB⟩ := hrel
            have hs := HB.out.size
            by_cases hlt : k < m
            · obtain ⟨b, of, rfl, had, hc0, hc1, hc2, hc3, hc4⟩ := ((H2.out.below HB.out).mono hs).get hlt
              have hf := HFR.out k hlt
              obtain ⟨r, hr⟩ : ∃ r, R k = r := ⟨_, rfl⟩
              rw [hr] at hc0 hc1 hc2 hc3 hc4 hf
              have HR := Lib.hid hr
              clear hr
              have CC := Lib.hid (ceded_any r (x (Re.frN R k)))
              have HCE : Hid (Re.ceds R x k = Re.ced r (x (Re.frN R k))) := Lib.hid (by rw [Re.ceds, HR.out])
              have hcb := Re.ced_bound r (x (Re.frN R k))
              obtain ⟨cv, hcv⟩ : ∃ cv, Re.ced r (x (Re.frN R k)) = cv := ⟨_, rfl⟩
              rw [hcv] at CC HCE hcb
              obtain ⟨fr, ds, sh, re, li⟩ := r
              simp only at hc0 hc1 hc2 hc3 hc4 hf
              unfold Re.Rt.agg at CC
              simp only at CC
              obtain ⟨⟨g0, g1, g2, g3⟩, _, _⟩ := hf
              obtain ⟨f, rfl⟩ : ∃ f : Nat, fr = f := ⟨fr.toNat, by omega⟩
              obtain ⟨d, rfl⟩ : ∃ d : Nat, ds = d := ⟨ds.toNat, by omega⟩
              have hfn : f < nx := by omega
              have hdn : d < nx := by omega
              have HFN : Hid (Re.frN R k = f) := Lib.hid (by rw [Re.frN, HR.out]; simp)
              have HTN : Hid (Re.toN R k = d) := Lib.hid (by rw [Re.toN, HR.out]; simp)
              rw [HFN.out] at CC
              obtain ⟨y, hy⟩ : ∃ y, x f = y := ⟨_, rfl⟩
              rw [hy] at CC
              obtain ⟨b3, of3, rfl, had3, hx0⟩ := ((H3.out.below HB.out).mono hs).get hfn
              rw [hy] at hx0
              have hsb := Re.acc_bound o (Re.toN R) (Re.ceds R x) 1073741824 k d (fun j _ => Re.ceds_bound R x j) (by omega)
              have hob := HFO.out d hdn
              obtain ⟨s, hs'⟩ : ∃ s, Re.acc o (Re.toN R) (Re.ceds R x) k d = s := ⟨_, rfl⟩
              have hsb1 : 0 ≤ s ∧ s ≤ 26843545600 := by rw [← hs']; omega
              obtain ⟨s0, s1⟩ := hsb1
              obtain ⟨cv0, cv1⟩ := hcb
              have hq0 := HO.out.cell d hdn
              have hq1 := HO.out.free d
              rw [hs'] at hq0
              have hgl := HO.out.lt
              have hgb := HO.out.base_le
              have HSS : Hid (Re.acc o (Re.toN R) (Re.ceds R x) (k + 1) d = s + cv) := Lib.hid (by rw [Re.acc_hit _ _ HTN.out.symm, HCE.out, ← hs'])
              have HO2 : Hid (∀ W : World, OwnN W w.heap.size g nx cap (Re.acc o (Re.toN R) (Re.ceds R x) k) → OwnN (W.setCell ⟨g, d, none⟩ (.int .i64 (s + cv))) w.heap.size g nx cap (Re.acc o (Re.toN R) (Re.ceds R x) (k + 1))) := Lib.hid fun W hW => (hW.put d _).congr fun j hj => by
                by_cases e : j = d
                · rw [if_pos e, e, HSS.out]
                · rw [if_neg e, Re.acc_miss _ _ (by rw [HTN.out]; exact e)]
              have hw1 : IntKind.i64.wrap (s + cv) = s + cv := by rw [IntKind.wrap_i64]; omega
              have HS0 := Lib.hid hs'
              clear hsb hs' hob hcv hy
              obtain ⟨W, hW⟩ : ∃ W, wr.alloc (.cells #[.int .i64 (f : Int), .int .i64 (d : Int), .int .i64 sh, .int .i64 re, .int .i64 li] 42) = W := ⟨_, rfl⟩
              go_wp2_with fail
              have HXB : Hid (Has W wr.heap.size #[.int .i64 (f : Int), .int .i64 (d : Int), .int .i64 sh, .int .i64 re, .int .i64 li] 42) := Lib.hid (by rw [← hW]; exact Has.new wr _ _)
              replace HO : Hid (OwnN W w.heap.size g nx cap (Re.acc o (Re.toN R) (Re.ceds R x) k)) := Lib.hid (by rw [← hW]; exact HO.out.alloc _)
              replace HB : Hid (Below w.heap.size w W) := Lib.hid (by rw [← hW]; exact HB.out.alloc hs _)
              replace hx0 : W.cell? ⟨b3, of3 + f, none⟩ = some (.int .i64 y) := by rw [← hW]; exact (World.cell?_alloc_lt wr _ _ had3).trans hx0
              have hwz : wr.heap.size < W.heap.size := HXB.out.lt
              obtain ⟨bx, hbx⟩ : ∃ b, wr.heap.size = b := ⟨_, rfl⟩
              rw [hbx] at HXB had3 hgl hs hwz ⊢
              clear hq0 hq1 hc0 hc1 hc2 hc3 hc4 hW hbx had
              obtain ⟨d0, d1, d2⟩ := HXB.out.rules
              have hq0 := HO.out.cell d hdn
              have hq1 := HO.out.free d
              rw [HS0.out] at hq0
              go_region_law (first
                | (go_simp; go_at_call 22; refine (CC.out _).mono ?_; rintro e w3 ⟨rfl, hb⟩; replace HO := Lib.hid (HO.out.drew.below hb (by simp; omega)); replace HXB := Lib.hid (Has.below (Has.drew HXB.out) hb (by simp; omega)); replace HB : Hid (Below w.heap.size w w3) := Lib.hid (HB.out.drew.trans (hb.mono (by simp; omega))); clear hb hq0 hq1 d0 d1; have hq0 := HO.out.cell d hdn; have hq1 := HO.out.free d; rw [HS0.out] at hq0; obtain ⟨d0, d1, d3⟩ := HXB.out.rules))
              all_goals
                go_wp2_with fail
                go_roundw
                case rel => exact ⟨k + 1, by omega, by go_num, Lib.hid (HO2.out _ HO.out), Lib.hid (HB.out.setCell hgb _)⟩
                case measure => simp [intOf]; omega
            · have hkn : k = m := by omega
              subst hkn
              go_wp2_with fail
              go_ret2
              exact ⟨_, nx, cap, by rw [HE0.out]; rfl, HB.out, by rw [HE0.out, if_pos rfl], HO.out.nums, fun ad h => by injection h with h; subst h; exact HO.out.base_le⟩
    · have HT : Hid (Re.lerr n o m R nx x = 4) := Lib.hid (Re.lerr_len hV hnn)
      have hne : ((nx : Int) != (n : Int)) = true := by rw [bne_iff_ne]; omega
      clear hV h h2 h3 hnn
      go_enter Tryz.func10, Tryz.ntmps10
      go_wp2_with fail
      refine CV.out.mono ?_
      rintro e w1 ⟨rfl, hb⟩
      have HB := Lib.hid hb
      clear hb CV
      go_wp2_with fail
      go_ret2
      exact RowPost.err HT.out (by omega) HB.out
  · have HT : Hid (Re.lerr n o m R nx x = V) := Lib.hid (by rw [Re.lerr_bad (by rw [hV]; exact hv), hV])
    have hne : (V != 0) = true := by rw [bne_iff_ne]; exact hv
    clear hV h h2 h3
    go_enter Tryz.func10, Tryz.ntmps10
    go_wp2_with fail
    refine CV.out.mono ?_
    rintro e w1 ⟨rfl, hb⟩
    have HB := Lib.hid hb
    clear hb CV
    go_wp2_with fail
    go_ret2
    exact RowPost.err HT.out hv HB.out
end Go.Proofs.YtbeikfopneeodaaGreat
namespace Go.Proofs.YtbeikfopneeodaaGreat
open Go.RowKit
set_option linter.unusedVariables false

end Go.Proofs.YtbeikfopneeodaaGreat
namespace Go.Proofs.YtbeikfopneeodaaGreat
open Go.RowKit
set_option linter.unusedVariables false

theorem own_base {w : World} {base base' : Nat} {e : TypeId} {size n : Nat} {v : Value} {xs : List Value} (h : w.ownsRow base' e size v n xs) (hb : base ≤ base') : w.ownsRow base e size v n xs := by
  refine ⟨h.1, ?_⟩
  rcases h.2 with h0 | ⟨g, cap, cur, hv, hg, hr⟩
  · exact .inl h0
  · exact .inr ⟨g, cap, cur, hv, by omega, hr⟩

end Go.Proofs.YtbeikfopneeodaaGreat
namespace Go.Proofs.YtbeikfopneeodaaGreat
open Go.RowKit
set_option linter.unusedVariables false

end Go.Proofs.YtbeikfopneeodaaGreat
namespace Go.Proofs.YtbeikfopneeodaaGreat
open Go.RowKit

def Am.within (x n : Int) : Int := x % n

theorem Am.within_bound (x n : Int) (h : 0 < n) : 0 ≤ Am.within x n ∧ Am.within x n < n :=
  ⟨Int.emod_nonneg _ (by omega), Int.emod_lt_of_pos _ h⟩

theorem Am.tmod_bound (x n : Int) (h : 0 < n) : -n < x.tmod n ∧ x.tmod n < n := by
  have h1 := Int.lt_tmod_of_pos x h
  have h2 := Int.tmod_lt_of_pos x h
  omega

theorem Am.within_eq (x n : Int) (h : 0 < n) : (x.tmod n + n).tmod n = Am.within x n := by
  have hb := Am.tmod_bound x n h
  rw [Int.tmod_eq_emod_of_nonneg (by omega), Int.add_emod_right]
  unfold Am.within
  have e := Int.mul_tdiv_add_tmod x n
  have e2 : x.tmod n = x - n * x.tdiv n := by omega
  rw [e2, Int.sub_mul_emod_self_left]


end Go.Proofs.YtbeikfopneeodaaGreat
namespace Go.Proofs.YtbeikfopneeodaaGreat
open Go.RowKit

/-- block b is a deck -/
def IsDeck (w : World) (b : Nat) : Prop := ∃ (A : Option Addr) (n c k : Nat) (z : Nat → Int),
  Has w b #[.slice A n c, .int .i64 k] 44 ∧ k ≤ n ∧ n ≤ 9223372036854775807 ∧ Cells w b A n fun j => .int .i64 (z j)

theorem IsDeck.lt {w : World} {b : Nat} (h : IsDeck w b) : b < w.heap.size := by
  obtain ⟨A, n, c, k, z, h, _⟩ := h
  exact h.lt

theorem IsDeck.below {w w' : World} {b B : Nat} (h : IsDeck w b) (hb : Below B w w') (hB : b < B) : IsDeck w' b := by
  obtain ⟨A, n, c, k, z, h, h1, h2, h3⟩ := h
  exact ⟨A, n, c, k, z, h.below hb hB, h1, h2, h3.below (hb.mono (Nat.le_of_lt hB))⟩
theorem IsDeck.alloc {w : World} {b : Nat} (h : IsDeck w b) (o : Obj) : IsDeck (w.alloc o) b :=
  h.below ((Below.refl _ _).alloc (Nat.le_refl _) o) h.lt
theorem IsDeck.drewN {w : World} {b : Nat} (h : IsDeck w b) (n : Nat) : IsDeck (w.drewN n) b := h.below (below_drewN (Below.refl w.heap.size w) n) h.lt
theorem IsDeck.far {w : World} {b : Nat} (h : IsDeck w b) {p : Addr} (hp : b < p.block) (u : Value) : IsDeck (w.setCell p u) b :=
  h.below (B := b + 1) ((Below.refl _ _).setCell hp u) (by omega)

/-- what a function of the deck returns: a number from lo to hi; the deck alone has changed -/
def DeckPost (b : Nat) (lo hi : Int) (w : World) (e : Ending) (w' : World) : Prop := ∃ v : Int, e = .returned (.int .i64 v) ∧ lo ≤ v ∧ v ≤ hi ∧ Keeps b w w' ∧ IsDeck w' b

set_option maxHeartbeats 1000000 in
theorem next_any (b : Nat) (n : Int) (w : World) (hd : IsDeck w b) (n0 : 0 < n) (n1 : n ≤ 70368744177664) :
    Calls Tryz.prog 13 #[.pointer (some ⟨b, 0, none⟩), .int .i64 n] w (DeckPost b 0 (n - 1) w) := by
  obtain ⟨A, l, c, k, z, hh, hk, hl, hc⟩ := hd
  have HH := Lib.hid hh
  obtain ⟨c0, c1, bl⟩ := hh.rules
  have HC := Lib.hid hc
  clear hc hh
  by_cases h : k < l
  · obtain ⟨ad, rfl, had, hcell⟩ := HC.out.get h
    obtain ⟨x, hx⟩ : ∃ x, z k = x := ⟨_, rfl⟩
    rw [hx] at hcell
    clear hx
    have hcell' : ∀ m u, ((w.drewN m).setCell ⟨b, 1, none⟩ u).cell? (ad.add k) = some (.int .i64 x) := fun m u => by
      rw [World.cell?_setCell_other _ _ _ _ (fun e => by have := congrArg Addr.block e; rw [add_block] at this; simp at this; omega)]
      exact hcell
    have HCELL := Lib.hid hcell'
    clear hcell' hcell
    go_enter Tryz.func13, Tryz.ntmps13
    go_wp2
    go_quiet (fail)
    go_wp2
    obtain ⟨w1, hw1⟩ : ∃ w1, (w.drewN nq).setCell ⟨b, 1, none⟩ (.int .i64 (k + 1)) = w1 := ⟨_, rfl⟩
    rw [hw1]
    have hh1 : Has w1 b #[.slice (some ad) l c, .int .i64 ((k + 1 : Nat) : Int)] 44 := by
      rw [← hw1]
      exact (HH.out.drewN nq).put 1 _
    have hcell := HCELL.out nq (.int .i64 (k + 1))
    rw [hw1] at hcell
    have HK : Hid (Keeps b w w1) := Lib.hid (by rw [← hw1]; exact ((Keeps.refl _ _).drewN _).put _ _)
    have HC1 : Hid (Cells w1 b (some ad) l fun j => .int .i64 (z j)) := Lib.hid (HC.out.keeps HK.out (Nat.le_refl _))
    have HH1 := Lib.hid hh1
    clear c0 c1 bl HCELL hw1 HC HH
    obtain ⟨c0, c1, bl⟩ := hh1.rules
    clear hh1
    obtain ⟨t, ht⟩ : ∃ t, x.tmod n = t := ⟨_, rfl⟩
    have hb := Am.tmod_bound x n n0
    have he := Am.within_eq x n n0
    rw [ht] at hb he
    obtain ⟨hb1, hb2⟩ := hb
    have h3 : 0 ≤ t + n := by omega
    rw [Int.tmod_eq_emod_of_nonneg (by omega)] at he
    have hv := Am.within_bound x n n0
    rw [← he] at hv
    have HV := Lib.hid hv
    have hn : ¬ n = 0 := by omega
    have hn2 : (n == 0) = false := by rw [beq_eq_false_iff_ne]; omega
    have hw2 : IntKind.i64.wrap (((k + 1 : Nat) : Int) - 1) = k := by rw [IntKind.wrap_i64]; omega
    have hw3 : IntKind.i64.wrap (t + n) = t + n := by rw [IntKind.wrap_i64]; omega
    have hk0 : (0 : Int) ≤ k := by omega
    have hk1 : (k : Int) < l := by omega
    clear he hv
    go_quiet (fail)
    go_wp2
    go_ret
    exact ⟨_, rfl, HV.out.1, by have := HV.out.2; omega, HK.out.drewN _, _, _, _, k + 1, z, HH1.out.drewN _, by omega, hl, HC1.out.drewN _⟩
  · have hkl : k = l := by omega
    subst hkl
    clear h
    go_enter Tryz.func13, Tryz.ntmps13
    go_wp2
    go_quiet (fail)
    go_wp2
    go_ret
    exact ⟨0, rfl, by omega, by omega, (Keeps.refl _ _).drewN _, A, k, c, k, z, HH.out.drewN _, by omega, hl, HC.out.drewN _⟩

set_option maxHeartbeats 400000 in
theorem deck_new (A : Option Addr) (n c : Nat) (z : Nat → Int) (w : World) (hn : n ≤ 9223372036854775807) (hc : Cells w w.heap.size A n fun j => .int .i64 (z j)) :
    Calls Tryz.prog 5 #[.slice A n c] w fun e w' => e = .returned (.pointer (some ⟨w.heap.size, 0, none⟩)) ∧ Below w.heap.size w w' ∧ IsDeck w' w.heap.size := by
  have HC := Lib.hid hc
  clear hc
  go_enter Tryz.func5, Tryz.ntmps5
  go_wp2
  go_ret
  exact ⟨rfl, (Below.refl _ _).alloc (Nat.le_refl _) _, A, n, c, 0, z, Has.new _ _ _, by omega, hn, HC.out.alloc (Nat.le_refl _) _⟩

set_option maxHeartbeats 1000000 in
theorem upto_any (b : Nat) (n : Int) (w : World) (hd : IsDeck w b) (n0 : 0 ≤ n) (n1 : n ≤ 35184372088832) :
    Calls Tryz.prog 9 #[.pointer (some ⟨b, 0, none⟩), .int .i64 n] w (DeckPost b 0 n w) := by
  have HD := Lib.hid hd
  clear hd
  go_enter Tryz.func9, Tryz.ntmps9
  go_wp2_with fail
  refine (next_any b 6 w HD.out (by omega) (by omega)).mono ?_
  rintro e w1 ⟨v, rfl, v0, v1, hk1, hd1⟩
  have HK1 := Lib.hid hk1
  have HD1 := Lib.hid hd1
  clear hk1 hd1 HD
  have hv : v = 0 ∨ v = 1 ∨ v = 2 ∨ v = 3 ∨ v = 4 ∨ v = 5 := by omega
  clear v0 v1
  rcases hv with rfl | rfl | rfl | rfl | rfl | rfl
  all_goals
    go_wp2_with fail
    all_goals
      refine (next_any b _ _ HD1.out (by omega) (by omega)).mono ?_
      rintro e w2 ⟨u, rfl, u0, u1, hk2, hd2⟩
      have HK2 : Hid (Keeps b w w2) := Lib.hid (HK1.out.trans hk2)
      have HD2 := Lib.hid hd2
      clear hk2 hd2 HD1 HK1
      go_wp2_with fail
      all_goals
        go_ret
        exact ⟨_, rfl, by omega, by omega, HK2.out, HD2.out⟩


end Go.Proofs.YtbeikfopneeodaaGreat
