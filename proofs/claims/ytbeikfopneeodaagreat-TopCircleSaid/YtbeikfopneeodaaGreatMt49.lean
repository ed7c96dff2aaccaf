/- retro.Net (printed by wip/gen/retro.py). A slice of numbers that came in, in the words of these proofs. What the law TopCircle stands on. -/
import Derived.Test.YtbeikfopneeodaaGreatMt43
import Derived.Test.YtbeikfopneeodaaGreatRead
import Derived.Test.YtbeikfopneeodaaGreatMt01
import Derived.Test.YtbeikfopneeodaaGreatMt40
import Derived.Test.YtbeikfopneeodaaGreatMt48
import Derived.Test.YtbeikfopneeodaaGreatMt47
namespace Go.Proofs.YtbeikfopneeodaaGreat
open Go.RowKit
set_option linter.unusedVariables false

set_option maxRecDepth 100000 in
set_option maxHeartbeats 4000000 in
theorem net_any (A : Option Addr) (n c : Nat) (o : Nat → Int) (A2 : Option Addr) (m c2 : Nat) (R : Nat → Re.Rt) (A3 : Option Addr) (nx c3 : Nat) (x : Nat → Int) (w : World)
    (hn : n ≤ 9223372036854775807) (hm : m ≤ 9223372036854775807) (hnx : nx ≤ 9223372036854775807) (h : Nums w w.heap.size A n o) (h2 : Rets w w.heap.size A2 m R) (h3 : Nums w w.heap.size A3 nx x) :
    Calls Tryz.prog 11 #[.slice A n c, .slice A2 m c2, .slice A3 nx c3] w (RowPost (Re.lerr n o m R nx x) n (Re.net m R x) w) := by
  have CV := Lib.hid (iterate_any A n c o A2 m c2 R A3 nx c3 x w hn hm hnx h h2 h3)
  obtain ⟨E, hE⟩ : ∃ E, Re.lerr n o m R nx x = E := ⟨_, rfl⟩
  rw [hE] at CV ⊢
  by_cases he : E = 0
  · subst he
    obtain ⟨hV, hnn, hfx⟩ := Re.lerr_fine hE
    obtain ⟨hf1, hf2, hf3, hfo, hfr⟩ := Re.verr_fine hV
    subst hnn
    have H := Lib.hid h
    have H2 := Lib.hid h2
    have H3 := Lib.hid h3
    have HFO := Lib.hid hfo
    have HFR := Lib.hid hfr
    have HFX := Lib.hid hfx
    obtain ⟨i0, hi0, hz0, hz1, hz2⟩ := info_parts int_info
    have HI := Lib.hid hi0
    have HZ0 := Lib.hid hz0
    have HZ1 := Lib.hid hz1
    have HZ2 := Lib.hid hz2
    clear hi0 hz0 hz1 hz2
    clear hV h h2 h3 hfo hfr hfx hE hn hm hnx
    go_enter Tryz.func11, Tryz.ntmps11
    go_wp2_with fail
    refine CV.out.mono ?_
    rintro e w1 ⟨_, _, _, rfl, hb, _, _, _⟩
    have HB := Lib.hid hb
    have hs := hb.size
    clear hb CV
    obtain ⟨b1, of1, hA, hb1, _⟩ := ((H3.out.below HB.out).mono hs).get (j := 0) (by omega)
    subst hA
    have HN : Hid (∀ j u, (numsL nx x)[j]? = some u → w1.cell? ((⟨b1, of1, none⟩ : Addr).add j) = some u) := Lib.hid (Nums.news (H3.out.below HB.out))
    go_wp2_with ((at_builtin; refine wpList_append_lies _ rfl _ _ 22 rfl w.heap.size 3 i0 _ 1 8 Tryz.underlying22 HI.out HZ0.out HZ1.out HZ2.out rfl (by omega) (.slice none 0 0) 0 [] rfl ⟨rfl, .inl ⟨rfl, rfl⟩⟩ ⟨b1, of1, none⟩ nx c3 (numsL nx x) rfl (by rw [numsL_length, Nat.mul_one]) HN.out (numsL_one nx x) (by omega) (by unfold maxLen; omega) (by omega) hs w1.heap.size rfl ?_; intro g cap w2 hown hgrow hat hlt2))
    simp only [Nat.zero_add, List.nil_append] at hown
    have HO : Hid (OwnN w2 w.heap.size g nx cap (Re.acc x (Re.frN R) (fun j => -Re.ceds R x j) 0)) := Lib.hid hown
    have HB2 : Hid (Below w.heap.size w w2) := Lib.hid (HB.out.grown hgrow hs (fun _ h => by cases h))
    clear hown hgrow hat hlt2 HN hb1
    go_wp2_with fail
    go_loopw [12, 27] (fun _ i wr => ∃ k : Nat, k ≤ m ∧ i = .int .i64 k ∧ Hid (OwnN wr w.heap.size g nx cap (Re.acc x (Re.frN R) (fun j => -Re.ceds R x j) k)) ∧ Hid (Below w.heap.size w wr)) (fun _ i _ => m - (intOf i).toNat)
    case atStart => exact ⟨0, Nat.zero_le _, rfl, HO, HB2⟩
    case round =>
      clear HO HB2 HB hs
      obtain ⟨k, hk, rfl, HO, HB⟩ := hrel
      have hs := HB.out.size
      by_cases hlt : k < m
      · obtain ⟨b, of, rfl, had, hc0, hc1, hc2, hc3, hc4⟩ := ((H2.out.below HB.out).mono hs).get hlt
        have hf := HFR.out k hlt
        obtain ⟨r, hr⟩ : ∃ r, R k = r := ⟨_, rfl⟩
        rw [hr] at hc0 hc1 hc2 hc3 hc4 hf
        have HR := Lib.hid hr
        clear hr
        have CC := Lib.hid (ceded_any r (x (Re.frN R k)))
        have HCE : Hid (Re.ceds R x k = Re.ced r (x (Re.frN R k))) := Lib.hid (by rw [Re.ceds, HR.out])
        have hcb := Re.ced_bound r (x (Re.frN R k))
        obtain ⟨cv, hcv⟩ : ∃ cv, Re.ced r (x (Re.frN R k)) = cv := ⟨_, rfl⟩
        rw [hcv] at CC HCE hcb
        obtain ⟨fr, ds, sh, re, li⟩ := r
        simp only at hc0 hc1 hc2 hc3 hc4 hf
        unfold Re.Rt.agg at CC
        simp only at CC
        obtain ⟨⟨g0, g1, g2, g3⟩, _, p0, p1, p2, p3, p4, p5⟩ := hf
        simp only at p0 p1 p2 p3 p4 p5
        obtain ⟨f, rfl⟩ : ∃ f : Nat, fr = f := ⟨fr.toNat, by omega⟩
        obtain ⟨d, rfl⟩ : ∃ d : Nat, ds = d := ⟨ds.toNat, by omega⟩
        have hfn : f < nx := by omega
        have hdn : d < nx := by omega
        have HFN : Hid (Re.frN R k = f) := Lib.hid (by rw [Re.frN, HR.out]; simp)
        have HTN : Hid (Re.toN R k = d) := Lib.hid (by rw [Re.toN, HR.out]; simp)
        rw [HFN.out] at CC
        obtain ⟨y, hy⟩ : ∃ y, x f = y := ⟨_, rfl⟩
        rw [hy] at CC
        obtain ⟨b3, of3, e3, had3, hx0⟩ := ((H3.out.below HB.out).mono hs).get hfn
        simp only [Option.some.injEq, Addr.mk.injEq, and_true] at e3
        obtain ⟨rfl, rfl⟩ := e3
        rw [hy] at hx0
        have hsb := Re.acc_neg x (Re.frN R) (fun j => -Re.ceds R x j) 1073741824 k f (fun j _ => by have := Re.ceds_bound R x j; omega) (by omega)
        have hob := HFX.out f hfn
        obtain ⟨s, hs'⟩ : ∃ s, Re.acc x (Re.frN R) (fun j => -Re.ceds R x j) k f = s := ⟨_, rfl⟩
        have hsb1 : -26843545600 ≤ s ∧ s ≤ 17592186044416 := by rw [← hs']; omega
        obtain ⟨s0, s1⟩ := hsb1
        obtain ⟨cv0, cv1⟩ := hcb
        have hq0 := HO.out.cell f hfn
        have hq1 := HO.out.free f
        rw [hs'] at hq0
        have hgl := HO.out.lt
        have hgb := HO.out.base_le
        have HSS : Hid (Re.acc x (Re.frN R) (fun j => -Re.ceds R x j) (k + 1) f = s - cv) := Lib.hid (by rw [Re.acc_hit _ _ HFN.out.symm, HCE.out, ← hs']; omega)
        have HO2 : Hid (∀ W : World, OwnN W w.heap.size g nx cap (Re.acc x (Re.frN R) (fun j => -Re.ceds R x j) k) → OwnN (W.setCell ⟨g, f, none⟩ (.int .i64 (s - cv))) w.heap.size g nx cap (Re.acc x (Re.frN R) (fun j => -Re.ceds R x j) (k + 1))) := Lib.hid fun W hW => (hW.put f _).congr fun j hj => by
          by_cases e : j = f
          · rw [if_pos e, e, HSS.out]
          · rw [if_neg e, Re.acc_miss _ _ (by rw [HFN.out]; exact e)]
        have hw1 : IntKind.i64.wrap (s - cv) = s - cv := by rw [IntKind.wrap_i64]; omega
        have HS0 := Lib.hid hs'
        clear hsb hs' hob hcv hy
        obtain ⟨W, hW⟩ : ∃ W, wr.alloc (.cells #[.int .i64 (f : Int), .int .i64 (d : Int), .int .i64 sh, .int .i64 re, .int .i64 li] 42) = W := ⟨_, rfl⟩
        go_wp2_with fail
        have HXB : Hid (Has W wr.heap.size #[.int .i64 (f : Int), .int .i64 (d : Int), .int .i64 sh, .int .i64 re, .int .i64 li] 42) := Lib.hid (by rw [← hW]; exact Has.new wr _ _)
        replace HO : Hid (OwnN W w.heap.size g nx cap (Re.acc x (Re.frN R) (fun j => -Re.ceds R x j) k)) := Lib.hid (by rw [← hW]; exact HO.out.alloc _)
        replace HB : Hid (Below w.heap.size w W) := Lib.hid (by rw [← hW]; exact HB.out.alloc hs _)
        replace hx0 : W.cell? ⟨b1, of1 + f, none⟩ = some (.int .i64 y) := by rw [← hW]; exact (World.cell?_alloc_lt wr _ _ had3).trans hx0
        have hwz : wr.heap.size < W.heap.size := HXB.out.lt
        obtain ⟨bx, hbx⟩ : ∃ b, wr.heap.size = b := ⟨_, rfl⟩
        rw [hbx] at HXB had3 hgl hs hwz ⊢
        clear hq0 hq1 hc0 hc1 hc2 hc3 hc4 hW hbx had
        obtain ⟨d0, d1, d2⟩ := HXB.out.rules
        have hq0 := HO.out.cell f hfn
        have hq1 := HO.out.free f
        rw [HS0.out] at hq0
        go_region_law (first
          | (go_simp; go_at_call 22; refine (CC.out _).mono ?_; rintro e w3 ⟨rfl, hb⟩; replace HO := Lib.hid (HO.out.drew.below hb (by simp; omega)); replace HXB := Lib.hid (Has.below (Has.drew HXB.out) hb (by simp; omega)); replace HB : Hid (Below w.heap.size w w3) := Lib.hid (HB.out.drew.trans (hb.mono (by simp; omega))); clear hb hq0 hq1 d0 d1; have hq0 := HO.out.cell f hfn; have hq1 := HO.out.free f; rw [HS0.out] at hq0; obtain ⟨d0, d1, d3⟩ := HXB.out.rules))
        all_goals
          go_wp2_with fail
          go_roundw
          case rel => exact ⟨k + 1, by omega, by go_num, Lib.hid (HO2.out _ HO.out), Lib.hid (HB.out.setCell hgb _)⟩
          case measure => simp [intOf]; omega
      · have hkn : k = m := by omega
        subst hkn
        go_wp2_with fail
        go_ret2
        exact ⟨_, nx, cap, rfl, HB.out, (if_pos rfl).symm, HO.out.nums, fun ad h => by injection h with h; subst h; exact HO.out.base_le⟩
  · have hne : (E != 0) = true := by rw [bne_iff_ne]; exact he
    clear hE h h2 h3
    go_enter Tryz.func11, Tryz.ntmps11
    go_wp2_with fail
    refine CV.out.mono ?_
    rintro e w1 ⟨_, _, _, rfl, hb, _, _, _⟩
    have HB := Lib.hid hb
    clear hb CV
    go_wp2_with fail
    go_ret2
    exact RowPost.err rfl he HB.out
end Go.Proofs.YtbeikfopneeodaaGreat
namespace Go.Proofs.YtbeikfopneeodaaGreat
open Go.RowKit

theorem wf_i64 {n : Int} (h : (Lit.int .i64 n).wf = true) : -9223372036854775808 ≤ n ∧ n ≤ 9223372036854775807 := by
  have h1 : IntKind.i64.min = -9223372036854775808 := by decide
  have h2 : IntKind.i64.max = 9223372036854775807 := by decide
  simp only [Lit.wf, h1, h2, Bool.and_eq_true, decide_eq_true_eq] at h
  exact h
theorem wf_u8 {n : Int} (h : (Lit.int .u8 n).wf = true) : 0 ≤ n ∧ n ≤ 255 := by
  have h1 : IntKind.u8.min = 0 := by decide
  have h2 : IntKind.u8.max = 255 := by decide
  simp only [Lit.wf, h1, h2, Bool.and_eq_true, decide_eq_true_eq] at h
  exact h

theorem rd_i64 {w : World} {v : Value} (h : Rd3 w [v]) : ∃ n : Int, v = .int .i64 n ∧ -9223372036854775808 ≤ n ∧ n ≤ 9223372036854775807 := by
  obtain ⟨n, h1, h2⟩ := h
  injection h1 with h1
  exact ⟨n, h1, wf_i64 h2⟩
/-- cells given element by element, as one function -/
theorem cells_of {w : World} {a : Addr} {n k : Nat} {P : Value → Prop} (h : ∀ i, i < n → ∃ cs : List Value, cs.length = k ∧ (∀ j, j < k → w.cell? (a.add (i * k + j)) = cs[j]?) ∧ ∀ v, v ∈ cs → P v) :
    ∃ f : Nat → Value, Cells w w.heap.size (some a) (n * k) f ∧ ∀ j, j < n * k → P (f j) := by
  have h' : ∀ m, ∃ v, m < n * k → w.cell? (a.add m) = some v ∧ P v := fun m => by
    by_cases hm : m < n * k
    · have hk : 0 < k := Nat.pos_of_ne_zero fun e => by subst e; simp at hm
      obtain ⟨cs, hl, hc, hp⟩ := h (m / k) (Nat.div_lt_of_lt_mul (by rw [Nat.mul_comm]; exact hm))
      have hr : m % k < k := Nat.mod_lt _ hk
      have e := hc (m % k) hr
      rw [Nat.mul_comm, Nat.div_add_mod, List.getElem?_eq_getElem (by omega)] at e
      exact ⟨_, fun _ => ⟨e, hp _ (List.getElem_mem _)⟩⟩
    · exact ⟨.bool false, fun h => absurd h hm⟩
  obtain ⟨f, hf⟩ := Classical.skolem.1 h'
  refine ⟨f, fun hn => ⟨a, rfl, ?_, fun j hj => (hf j hj).1⟩, fun j hj => (hf j hj).2⟩
  have := cell_lt (hf 0 hn).1
  rwa [add_block] at this

def IsI64 (v : Value) : Prop := ∃ z : Int, v = .int .i64 z ∧ -9223372036854775808 ≤ z ∧ z ≤ 9223372036854775807

/-- cells that hold integers, by a function of integers -/
theorem cells_ints {w : World} {B : Nat} {A : Option Addr} {n : Nat} {f : Nat → Value} (h : Cells w B A n f) (hp : ∀ j, j < n → IsI64 (f j)) :
    ∃ z : Nat → Int, Cells w B A n (fun j => .int .i64 (z j)) ∧ ∀ j, j < n → -9223372036854775808 ≤ z j ∧ z j ≤ 9223372036854775807 := by
  have h' : ∀ j, ∃ z : Int, j < n → f j = .int .i64 z ∧ -9223372036854775808 ≤ z ∧ z ≤ 9223372036854775807 := fun j => by
    by_cases hj : j < n
    · obtain ⟨z, hz⟩ := hp j hj
      exact ⟨z, fun _ => hz⟩
    · exact ⟨0, fun h => absurd h hj⟩
  obtain ⟨z, hz⟩ := Classical.skolem.1 h'
  exact ⟨z, h.congr fun j hj => (hz j hj).1, fun j hj => (hz j hj).2⟩

theorem rd_ints {w : World} {v : Value} (h : Rd22 w [v]) : ∃ (A : Option Addr) (n c : Nat) (z : Nat → Int), v = .slice A n c ∧ n ≤ 9223372036854775807 ∧ n ≤ c ∧ (A = none → n = 0 ∧ c = 0) ∧
    Cells w w.heap.size A n (fun j => .int .i64 (z j)) ∧ ∀ j, j < n → -9223372036854775808 ≤ z j ∧ z j ≤ 9223372036854775807 := by
  rcases h with h | ⟨a, len, cap, h, h1, h2, h3⟩
  · injection h with h
    exact ⟨none, 0, 0, fun _ => 0, h, by omega, by omega, fun _ => ⟨rfl, rfl⟩, Cells.zero, fun j hj => absurd hj (by omega)⟩
  · injection h with h
    obtain ⟨f, hc, hp⟩ := cells_of (n := len) (k := 1) (P := IsI64) fun i hi => by
      obtain ⟨cs, hl, hcc, n, hn, hw⟩ := h3 i (by omega)
      exact ⟨cs, hl, hcc, fun v hv => by rw [hn] at hv; simp at hv; exact ⟨n, hv, wf_i64 hw⟩⟩
    rw [Nat.mul_one] at hc hp
    obtain ⟨z, hz, hb⟩ := cells_ints hc hp
    exact ⟨some a, len, cap, z, h, by unfold maxLen at h2; omega, h1, (fun e => by cases e), hz, hb⟩
end Go.Proofs.YtbeikfopneeodaaGreat

