/- retro.Greatest (printed by wip/gen/retro.py). -/
import Derived.Test.YtdfajopniflaaaaReG
namespace Go.Proofs.Ytdfajopniflaaaa
open Go.RowKit
set_option linter.unusedVariables false

set_option maxRecDepth 100000 in
set_option maxHeartbeats 4000000 in
theorem greatest_any (A : Option Addr) (n c : Nat) (o : Nat → Int) (A2 : Option Addr) (m c2 : Nat) (R : Nat → Re.Rt) (w : World) (hn : n ≤ 9223372036854775807) (hm : m ≤ 9223372036854775807)
    (h : Nums w w.heap.size A n o) (h2 : Rets w w.heap.size A2 m R) :
    Calls Try.prog 14 #[.slice A n c, .slice A2 m c2] w (TriPost n (Re.sev (Re.verr n o m R) (Re.greatest n o m R)) (Re.sop (Re.verr n o m R) (Re.greatest n o m R)) w) := by
  have CV := Lib.hid (validate_any A n c o A2 m c2 R w hn hm h h2)
  obtain ⟨V, hV⟩ : ∃ V, Re.verr n o m R = V := ⟨_, rfl⟩
  rw [hV] at CV ⊢
  by_cases hv : V = 0
  · subst hv
    obtain ⟨hf1, hf2, hf3, hfo, hfr⟩ := Re.verr_fine hV
    have CS : Hid (∀ (W : World) (A3 : Option Addr) (c3 : Nat), Below w.heap.size w W → Nums W W.heap.size A3 n (Re.top o m R) → Calls Try.prog 32 #[.slice A n c, .slice A2 m c2, .slice A3 n c3] W (TriPost n (Re.ser (Re.greatest n o m R)) (Re.greatest n o m R) W)) := Lib.hid fun W A3 c3 hb h3 =>
      settle_any A n c o A2 m c2 R A3 c3 (Re.top o m R) W hV ((h.below hb).mono hb.size) ((h2.below hb).mono hb.size) h3 (fun i hi => by have := Re.top_bound hV i hi; omega)
    rw [show Re.sev 0 (Re.greatest n o m R) = Re.ser (Re.greatest n o m R) from if_pos rfl, show Re.sop 0 (Re.greatest n o m R) = Re.greatest n o m R from if_pos rfl]
    obtain ⟨s, hs⟩ : ∃ s, Re.greatest n o m R = s := ⟨_, rfl⟩
    rw [hs] at CS ⊢
    have H := Lib.hid h
    have H2 := Lib.hid h2
    have HFO := Lib.hid hfo
    have HFR := Lib.hid hfr
    obtain ⟨i0, hi0, hz0, hz1, hz2⟩ := info_parts int_info
    have HI := Lib.hid hi0
    have HZ0 := Lib.hid hz0
    have HZ1 := Lib.hid hz1
    have HZ2 := Lib.hid hz2
    clear hi0 hz0 hz1 hz2
    clear hs hV h h2 hfo hfr
    go_enter Try.func14, Try.ntmps14
    go_wp2_with fail
    refine CV.out.mono ?_
    rintro e w1 ⟨rfl, hb⟩
    have HB := Lib.hid hb
    have hs := hb.size
    clear hb CV
    obtain ⟨b1, of1, hA, hb1, _⟩ := ((H.out.below HB.out).mono hs).get (j := 0) (by omega)
    subst hA
    have HN : Hid (∀ j u, (numsL n o)[j]? = some u → w1.cell? ((⟨b1, of1, none⟩ : Addr).add j) = some u) := Lib.hid (Nums.news (H.out.below HB.out))
    go_wp2_with ((at_builtin; refine wpList_append_lies _ rfl _ _ 22 rfl w.heap.size 3 i0 _ 1 8 Try.underlying22 HI.out HZ0.out HZ1.out HZ2.out rfl (by omega) (.slice none 0 0) 0 [] rfl ⟨rfl, .inl ⟨rfl, rfl⟩⟩ ⟨b1, of1, none⟩ n c (numsL n o) rfl (by rw [numsL_length, Nat.mul_one]) HN.out (numsL_one n o) (by omega) (by unfold maxLen; omega) (by omega) hs w1.heap.size rfl ?_; intro g cap w2 hown hgrow hat hlt2))
    simp only [Nat.zero_add, List.nil_append] at hown
    have HO : Hid (OwnN w2 w.heap.size g n cap (Re.acc o (Re.toN R) (fun j => (R j).li) 0)) := Lib.hid hown
    have HB2 : Hid (Below w.heap.size w w2) := Lib.hid (HB.out.grown hgrow hs (fun _ h => by cases h))
    clear hown hgrow hat hlt2 HN hb1
    go_wp2_with fail
    go_loopw [10, 21] (fun _ i wr => ∃ k : Nat, k ≤ m ∧ i = .int .i64 k ∧ Hid (OwnN wr w.heap.size g n cap (Re.acc o (Re.toN R) (fun j => (R j).li) k)) ∧ Hid (Below w.heap.size w wr)) (fun _ i _ => m - (intOf i).toNat)
    case atStart => exact ⟨0, Nat.zero_le _, rfl, HO, HB2⟩
    case round =>
      clear HO HB2 HB hs
      obtain ⟨k, hk, rfl, HO, HB⟩ := hrel
      have hs := HB.out.size
      by_cases hlt : k < m
      · obtain ⟨b, of, rfl, had, hc0, hc1, hc2, hc3, hc4⟩ := ((H2.out.below HB.out).mono hs).get hlt
        have hf := HFR.out k hlt
        obtain ⟨r, hr⟩ : ∃ r, R k = r := ⟨_, rfl⟩
        rw [hr] at hc0 hc1 hc2 hc3 hc4 hf
        have HR := Lib.hid hr
        clear hr
        obtain ⟨fr, ds, sh, re, li⟩ := r
        simp only at hc0 hc1 hc2 hc3 hc4 hf
        obtain ⟨⟨g0, g1, g2, g3⟩, _, p0, p1, p2, p3, p4, p5⟩ := hf
        simp only at p0 p1 p2 p3 p4 p5
        obtain ⟨f, rfl⟩ : ∃ f : Nat, fr = f := ⟨fr.toNat, by omega⟩
        obtain ⟨d, rfl⟩ : ∃ d : Nat, ds = d := ⟨ds.toNat, by omega⟩
        have hfn : f < n := by omega
        have hdn : d < n := by omega
        have HFN : Hid (Re.frN R k = f) := Lib.hid (by rw [Re.frN, HR.out]; simp)
        have HTN : Hid (Re.toN R k = d) := Lib.hid (by rw [Re.toN, HR.out]; simp)
        have hsb := Re.acc_bound o (Re.toN R) (fun j => (R j).li) 1073741824 k d (fun j hj => by have := (HFR.out j (by omega)).2.2; exact ⟨by have := this.2.2.2.2.1; omega, this.2.2.2.2.2⟩) (by omega)
        have hob := HFO.out d hdn
        obtain ⟨s, hs'⟩ : ∃ s, Re.acc o (Re.toN R) (fun j => (R j).li) k d = s := ⟨_, rfl⟩
        have hsb1 : 0 ≤ s ∧ s ≤ 26843545600 := by rw [← hs']; omega
        obtain ⟨s0, s1⟩ := hsb1
        have hq0 := HO.out.cell d hdn
        have hq1 := HO.out.free d
        rw [hs'] at hq0
        have hgl := HO.out.lt
        have hgb := HO.out.base_le
        have HSS : Hid (Re.acc o (Re.toN R) (fun j => (R j).li) (k + 1) d = s + li) := Lib.hid (by rw [Re.acc_hit _ _ HTN.out.symm, HR.out, ← hs'])
        have HO2 : Hid (∀ W : World, OwnN W w.heap.size g n cap (Re.acc o (Re.toN R) (fun j => (R j).li) k) → OwnN (W.setCell ⟨g, d, none⟩ (.int .i64 (s + li))) w.heap.size g n cap (Re.acc o (Re.toN R) (fun j => (R j).li) (k + 1))) := Lib.hid fun W hW => (hW.put d _).congr fun j hj => by
          by_cases e : j = d
          · rw [if_pos e, e, HSS.out]
          · rw [if_neg e, Re.acc_miss _ _ (by rw [HTN.out]; exact e)]
        have hw1 : IntKind.i64.wrap (s + li) = s + li := by rw [IntKind.wrap_i64]; omega
        have HS0 := Lib.hid hs'
        clear hsb hs' hob
        obtain ⟨W, hW⟩ : ∃ W, wr.alloc (.cells #[.int .i64 (f : Int), .int .i64 (d : Int), .int .i64 sh, .int .i64 re, .int .i64 li] 48) = W := ⟨_, rfl⟩
        go_wp2_with fail
        have HXB : Hid (Has W wr.heap.size #[.int .i64 (f : Int), .int .i64 (d : Int), .int .i64 sh, .int .i64 re, .int .i64 li] 48) := Lib.hid (by rw [← hW]; exact Has.new wr _ _)
        replace HO : Hid (OwnN W w.heap.size g n cap (Re.acc o (Re.toN R) (fun j => (R j).li) k)) := Lib.hid (by rw [← hW]; exact HO.out.alloc _)
        replace HB : Hid (Below w.heap.size w W) := Lib.hid (by rw [← hW]; exact HB.out.alloc hs _)
        have hwz : wr.heap.size < W.heap.size := HXB.out.lt
        obtain ⟨bx, hbx⟩ : ∃ b, wr.heap.size = b := ⟨_, rfl⟩
        rw [hbx] at HXB hgl hs hwz ⊢
        clear hq0 hq1 hc0 hc1 hc2 hc3 hc4 hW hbx had
        obtain ⟨d0, d1, d2⟩ := HXB.out.rules
        have hq0 := HO.out.cell d hdn
        have hq1 := HO.out.free d
        rw [HS0.out] at hq0
        go_region
        all_goals
          go_wp2_with fail
          go_roundw
          case rel => exact ⟨k + 1, by omega, by go_num, Lib.hid (HO2.out _ HO.out).drew, Lib.hid (HB.out.setCell hgb _).drew⟩
          case measure => simp [intOf]; omega
      · have hkn : k = m := by omega
        subst hkn
        go_wp2_with fail
        refine (CS.out _ _ _ HB.out HO.out.nums).mono ?_
        rintro e w2 ⟨X, mm, c4, rfl, hb, hmm, hnx, hfr⟩
        have HP : Hid (TriPost n (Re.ser s) s w (.returned (.tuple #[.slice X mm c4, .int .i64 (Re.rnd s), .int .i64 (Re.ser s)])) w2) := Lib.hid ⟨X, mm, c4, rfl, HB.out.trans (hb.mono HB.out.size), hmm, hnx, fun ad h => Nat.le_trans HB.out.size (hfr ad h)⟩
        clear hb hmm hnx hfr
        go_wp2_with fail
        go_ret3
        exact HP.out
  · have hne : (V != 0) = true := by rw [bne_iff_ne]; exact hv
    rw [show Re.sev V (Re.greatest n o m R) = V from if_neg hv, show Re.sop V (Re.greatest n o m R) = none from if_neg hv]
    clear hV h h2
    go_enter Try.func14, Try.ntmps14
    go_wp2_with fail
    refine CV.out.mono ?_
    rintro e w1 ⟨rfl, hb⟩
    have HB := Lib.hid hb
    clear hb CV
    go_wp2_with fail
    go_ret3
    exact TriPost.nothing rfl HB.out
end Go.Proofs.Ytdfajopniflaaaa
