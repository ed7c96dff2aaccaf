/- The losses that the laws of layer 39 draw between the own ones and the greatest ones. -/
import Derived.Test.YtdfajopniflaaaaReT
import Derived.Test.YtdfajopniflaaaaReRt
import Derived.Test.YtdfajopniflaaaaReSo
namespace Go.Proofs.Ytdfajopniflaaaa
open Go.RowKit
set_option linter.unusedVariables false

theorem Nums.keeps_ne {b n : Nat} {w w' : World} {A : Option Addr} {f : Nat → Int} (h : Nums w w.heap.size A n f) (hk : Keeps b w w') (hA : ∀ ad, A = some ad → ad.block ≠ b) : Nums w' w'.heap.size A n f := Cells.keeps_ne h hk hA
theorem Rets.keeps_ne {b n : Nat} {w w' : World} {A : Option Addr} {R : Nat → Re.Rt} (h : Rets w w.heap.size A n R) (hk : Keeps b w w') (hA : ∀ ad, A = some ad → ad.block ≠ b) : Rets w' w'.heap.size A n R := Cells.keeps_ne h hk hA
theorem Row.nums {w : World} {g n : Nat} {f : Nat → Int} (h : Row w g n 3 (fun i => .int .i64 (f i))) : Nums w w.heap.size (some ⟨g, 0, none⟩) n f := h.cells

/-- what list returns -/
def ListPost (b n : Nat) (lo hi : Nat → Int) (w : World) (e : Ending) (w' : World) : Prop := ∃ (g : Nat) (x : Nat → Int), e = .returned (.slice (some ⟨g, 0, none⟩) n n) ∧ w.heap.size ≤ g ∧ Row w' g n 3 (fun i => .int .i64 (x i)) ∧ (∀ i, i < n → lo i ≤ x i ∧ x i ≤ hi i) ∧ Keeps b w w' ∧ IsDeck w' b

set_option maxRecDepth 100000 in
set_option maxHeartbeats 4000000 in
theorem list39_any (b : Nat) (A : Option Addr) (n c : Nat) (o : Nat → Int) (A2 : Option Addr) (m c2 : Nat) (R : Nat → Re.Rt) (w : World) (hd : IsDeck w b) (hV : Re.verr n o m R = 0) (h : Nums w w.heap.size A n o) (h2 : Rets w w.heap.size A2 m R)
    (hA : ∀ ad, A = some ad → ad.block ≠ b) (hA2 : ∀ ad, A2 = some ad → ad.block ≠ b) :
    Calls Try.prog 20 #[.pointer (some ⟨b, 0, none⟩), .slice A n c, .slice A2 m c2] w (ListPost b n o (Re.top o m R) w) := by
  obtain ⟨hf1, hf2, hf3, hfo, hfr⟩ := Re.verr_fine hV
  have HTB : Hid (∀ i, i < n → o i ≤ Re.top o m R i ∧ 0 ≤ Re.top o m R i ∧ Re.top o m R i ≤ 26843545600) := Lib.hid fun i hi => Re.top_bound hV i hi
  have HFO := Lib.hid hfo
  have HD := Lib.hid hd
  have hb0 := hd.lt
  obtain ⟨i0, hi0, hz0, hz1, hz2⟩ := info_parts int_info
  have HI := Lib.hid hi0
  have HZ0 := Lib.hid hz0
  have HZ1 := Lib.hid hz1
  have HZ2 := Lib.hid hz2
  clear hi0 hz0 hz1 hz2 hfo hfr hd
  obtain ⟨W1, hmk, ho, hg⟩ := run_make_full (P := Try.prog) w w.heap.size 22 3 i0 (.int .i64 0) 1 Try.underlying22 HI.out HZ0.out HZ1.out .i64 .i64 n (by rw [HZ2.out]; omega) (by unfold maxLen; omega) (Nat.le_refl _)
  have HR0 := Lib.hid (row_zero ho)
  have hgB : Below w.heap.size w W1 := (Below.refl w.heap.size w).grown hg (Nat.le_refl _) (fun _ h => by cases h)
  have HK : Hid (Keeps b w W1) := Lib.hid (Keeps.of_below hgB b)
  replace HD := Lib.hid (HD.out.below hgB hb0)
  have H := Lib.hid ((h.below hgB).mono hgB.size)
  have H2 := Lib.hid ((h2.below hgB).mono hgB.size)
  have HA := Lib.hid hA
  have HA2 := Lib.hid hA2
  have HAW : Hid (∀ ad, A = some ad → ad.block < w.heap.size) := Lib.hid fun ad e => by obtain ⟨ad', e', hl, _⟩ := h (by omega); rw [e] at e'; injection e' with e'; subst e'; exact hl
  have CT := Lib.hid (rtop_any A n c o A2 m c2 R W1 hV H.out H2.out)
  have hz := hgB.size
  clear ho hg hgB h h2 hA hA2 hV
  obtain ⟨gb, hgb⟩ : ∃ g, w.heap.size = g := ⟨_, rfl⟩
  rw [hgb] at HR0
  have hgw : w.heap.size ≤ gb := by omega
  have hgl : gb < W1.heap.size := HR0.out.lt
  go_enter Try.func20, Try.ntmps20
  go_wp2_with fail
  clear hmk hgb
  refine CT.out.mono ?_
  rintro e w2 ⟨gt, ct, rfl, hgt, ht, hb⟩
  have hkb := Keeps.of_below hb b
  replace HR0 := Lib.hid (HR0.out.keeps hkb (by omega))
  replace HK := Lib.hid (HK.out.trans hkb)
  replace HD := Lib.hid (HD.out.below hb HD.out.lt)
  replace H := Lib.hid (H.out.keeps_ne hkb HA.out)
  have HT := Lib.hid ht
  have htb : gt ≠ b := by omega
  clear ht hb hkb CT H2 HA2
  obtain ⟨T, hT⟩ : ∃ T, Re.top o m R = T := ⟨_, rfl⟩
  rw [hT] at HT HTB
  have HTT := Lib.hid hT
  clear hT
  go_wp2_with fail
  go_loopw [9, 18] (fun _ i wr => ∃ (k : Nat) (x : Nat → Int), k ≤ n ∧ i = .int .i64 k ∧ Hid (Row wr gb n 3 (fun i => .int .i64 (x i))) ∧ Hid (∀ i, i < k → o i ≤ x i ∧ x i ≤ T i) ∧ Hid (Keeps b w wr) ∧ Hid (IsDeck wr b) ∧ Hid (Nums wr wr.heap.size A n o) ∧ Hid (Nums wr wr.heap.size (some ⟨gt, 0, none⟩) n T)) (fun _ i _ => n - (intOf i).toNat)
  case atStart => exact ⟨0, fun _ => 0, Nat.zero_le _, rfl, HR0, Lib.hid fun i hi => absurd hi (by omega), HK, HD, H, HT⟩
  case round =>
    clear HR0 HK HD H HT
    obtain ⟨k, x, hk, rfl, HR, HX, HK, HD, H, HT⟩ := hrel
    by_cases hlt : k < n
    · obtain ⟨ba, oa, rfl, hba, hc0⟩ := H.out.get hlt
      obtain ⟨_, _, e3, _, ht0⟩ := HT.out.get hlt
      simp only [Option.some.injEq, Addr.mk.injEq, and_true] at e3
      obtain ⟨rfl, rfl⟩ := e3
      rw [Nat.zero_add] at ht0
      have hbab : ba ≠ b := HA.out _ rfl
      have hbg : ba ≠ gb ∨ ba = gb := by omega
      obtain ⟨ok, hok⟩ : ∃ ok, o k = ok := ⟨_, rfl⟩
      obtain ⟨tk, htk⟩ : ∃ tk, T k = tk := ⟨_, rfl⟩
      have hob := HFO.out k hlt
      have htb2 := HTB.out k hlt
      rw [hok] at hc0 hob
      rw [htk] at ht0
      rw [hok, htk] at htb2
      obtain ⟨ob0, ob1⟩ := hob
      obtain ⟨tb0, tb1, tb2⟩ := htb2
      have HOK := Lib.hid hok
      have HTK := Lib.hid htk
      have hk0 : (0 : Int) ≤ k := by omega
      have hk1 : (k : Int) < n := by omega
      have hw1 : IntKind.i64.wrap (tk - ok) = tk - ok := by rw [IntKind.wrap_i64]; omega
      have hw2 : IntKind.i64.wrap (tk - ok + 1) = tk - ok + 1 := by rw [IntKind.wrap_i64]; omega
      have hq0 := HR.out.cell k hlt
      have hq1 := HR.out.free k
      clear hok htk
      go_wp2_with fail
      go_region_law (first
        | (go_simp; go_at_call 30; refine (next_any b _ _ (HD.out.drewN 1) (by omega) (by omega)).mono ?_; rintro e w3 ⟨y, rfl, y0, y1, hk2, hd2⟩; have hk3 := (Keeps.drewN (Keeps.refl b wr) 1).trans hk2; replace HR := Lib.hid (HR.out.keeps hk3 (by omega)); replace HK := Lib.hid (HK.out.trans hk3); replace HD := Lib.hid hd2; replace H := Lib.hid (H.out.keeps_ne hk3 HA.out); replace HT := Lib.hid (HT.out.keeps_ne hk3 (fun ad h => (by injection h with h; subst h; exact htb))); clear hk2 hd2 hk3 hq0 hq1 hc0; have hq0 := HR.out.cell k hlt; have hq1 := HR.out.free k; obtain ⟨_, _, e3, hba2, hc0⟩ := H.out.get hlt; simp only [Option.some.injEq, Addr.mk.injEq, and_true] at e3; obtain ⟨rfl, rfl⟩ := e3; rw [HOK.out] at hc0; have hw3 : IntKind.i64.wrap (ok + y) = ok + y := (by rw [IntKind.wrap_i64]; omega)))
      all_goals
        have hab := HAW.out _ rfl
        have HX2 : Hid (∀ i, i < k + 1 → o i ≤ (if i = k then ok + y else x i) ∧ (if i = k then ok + y else x i) ≤ T i) := Lib.hid fun i hi => by
          by_cases e : i = k
          · rw [if_pos e, e, HOK.out, HTK.out]; omega
          · rw [if_neg e]; exact HX.out i (by omega)
        have HR2 := Lib.hid (upd_row HR.out k (ok + y))
        have HK2 := Lib.hid (HK.out.far (p := ⟨gb, k, none⟩) hgw (.int .i64 (ok + y)))
        have HD2 := Lib.hid (HD.out.far (p := ⟨gb, k, none⟩) (by simp only; omega) (.int .i64 (ok + y)))
        have H2' : Hid (Nums (w3.setCell ⟨gb, k, none⟩ (.int .i64 (ok + y))) (w3.setCell ⟨gb, k, none⟩ (.int .i64 (ok + y))).heap.size _ n o) := Lib.hid (Nums.mono (H.out.far (p := ⟨gb, k, none⟩) (fun ad e => by injection e with e; subst e; simp only at hab ⊢; omega) (.int .i64 (ok + y))) (by simp))
        have HT2 : Hid (Nums (w3.setCell ⟨gb, k, none⟩ (.int .i64 (ok + y))) (w3.setCell ⟨gb, k, none⟩ (.int .i64 (ok + y))).heap.size _ n T) := Lib.hid (Nums.mono (HT.out.far (p := ⟨gb, k, none⟩) (fun ad e => by injection e with e; subst e; simp only; omega) (.int .i64 (ok + y))) (by simp))
        go_wp2_with fail
        go_roundw
        case rel => exact ⟨k + 1, _, by omega, by go_num, HR2, HX2, HK2, HD2, H2', HT2⟩
        case measure => simp [intOf]; omega
    · have hkn : k = n := by omega
      subst hkn
      go_wp2_with fail
      go_ret
      exact ⟨gb, x, rfl, hgw, HR.out, by rw [HTT.out]; exact HX.out, HK.out, HD.out⟩
end Go.Proofs.Ytdfajopniflaaaa
