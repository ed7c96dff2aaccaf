/- excess.Indexed, Cede and the reference's. -/
import Derived.Test.YtigoeaidlgofoaaTyE
import Derived.Test.YtigoeaidlgofoaaTyG
import Derived.Test.YtigoeaidlgofoaaExAt
import Derived.Test.YtigoeaidlgofoaaMd4
import Derived.Test.YtigoeaidlgofoaaAm
import Derived.Deep.RegionHeld3
import Derived.Deep.CutBlock
namespace Go.Proofs.Ytigoeaidlgofoaa
open Go.RowKit
set_option linter.unusedVariables false

namespace Ex
/-- the layer of a treaty at an hour: retention, limit, error -/
def ixd (t : Ty) (n : Nat) (f g : Nat → Int) (h : Int) : Int × Int × Int :=
  if t.err ≠ 0 then (0, 0, t.err) else if t.kind < 4 then (0, 0, 11) else if ¬ (t.kind = 4 ∧ t.base ≠ 0) then (t.ret, t.lim, 0) else
  if (at' n f g h).2 ≠ 0 then (0, 0, (at' n f g h).2) else if (Am.md t.ret (at' n f g h).1 t.base 4).2 ≠ 0 then (0, 0, 3) else if (Am.md t.lim (at' n f g h).1 t.base 4).2 ≠ 0 then (0, 0, 3) else
  ((Am.md t.ret (at' n f g h).1 t.base 4).1, (Am.md t.lim (at' n f g h).1 t.base 4).1, 0)

theorem md_two (a v b : Int) (a0 : 0 ≤ a) (a1 : a ≤ 1073741824) (v0 : 1 ≤ v) (v1 : v ≤ 1000000000) (b0 : 1 ≤ b) (b1 : b ≤ 1000000000) : Am.md a v b 4 = (0, 3) ∨ ∃ x, Am.md a v b 4 = (x, 0) ∧ 0 ≤ x ∧ x ≤ 17592186044416 := by
  rw [Am.md_hu _ _ _ a0 (by omega) (by omega) (by omega) b0 (by omega)]
  by_cases h : 17592186044416 < Am.hu (a * v) b
  · exact .inl (if_pos h)
  · refine .inr ⟨_, if_neg h, Am.hu_nonneg (by omega) (Int.mul_nonneg a0 (by omega)), by omega⟩

/-- the cession of an amount: ceded, kept, the rest, error -/
def ced (x : Int × Int × Int) (a : Int) : Int × Int × Int × Int :=
  if x.2.2 ≠ 0 then (0, 0, 0, x.2.2) else if ¬ (0 ≤ a ∧ a ≤ 17592186044416) then (0, 0, 0, 1) else (layer a x.1 x.2.1, min a x.1, a - layer a x.1 x.2.1 - min a x.1, 0)

/-- what Indexed returns lies in bounds -/
theorem ixd_bound {t : Ty} {n : Nat} {f g : Nat → Int} {h : Int} : (ixd t n f g h).2.2 ≠ 0 ∨ (0 ≤ (ixd t n f g h).1 ∧ (ixd t n f g h).1 ≤ 17592186044416 ∧ 0 ≤ (ixd t n f g h).2.1 ∧ (ixd t n f g h).2.1 ≤ 17592186044416) := by
  unfold ixd
  by_cases h1 : t.err ≠ 0
  · rw [if_pos h1]; exact .inl h1
  · rw [if_neg h1]
    by_cases h2 : t.kind < 4
    · rw [if_pos h2]; exact .inl (by simp)
    · rw [if_neg h2]
      have he := Ty.fine (Classical.not_not.1 h1)
      have hf := he.2.2.2.1
      have h4 := Ty.span hf 4 (by omega)
      have h5 := Ty.span hf 5 (by omega)
      have hk : t.kind = 4 ∨ t.kind = 5 ∨ t.kind = 6 := by omega
      have hr : 0 ≤ t.ret ∧ t.ret ≤ 1073741824 ∧ 1 ≤ t.lim ∧ t.lim ≤ 1073741824 := by
        rcases hk with hk | hk | hk
        all_goals
          rw [hk] at h4 h5
          simp [Ty.lo, Ty.hi, Ty.tab, Ty.val] at h4 h5
          omega
      by_cases h3 : ¬ (t.kind = 4 ∧ t.base ≠ 0)
      · rw [if_pos h3]; exact .inr ⟨hr.1, by simp only; omega, by simp only; omega, by simp only; omega⟩
      · rw [if_neg h3]
        have h3' := Classical.not_not.1 h3
        have h9 := Ty.span hf 9 (by omega)
        rw [h3'.1] at h9
        simp [Ty.lo, Ty.hi, Ty.tab, Ty.val] at h9
        by_cases h6 : (at' n f g h).2 ≠ 0
        · rw [if_pos h6]; exact .inl h6
        · rw [if_neg h6]
          have ha := at_cases n f g h
          have hv : idxP (at' n f g h).1 := by
            rcases ha with ha | ha
            · exact absurd ha.2 h6
            · exact ha.1
          have hb := h3'.2
          rcases md_two t.ret (at' n f g h).1 t.base hr.1 hr.2.1 hv.1 hv.2 (by omega) (by omega) with hm | ⟨x, hm, x0, x1⟩
          · rw [hm]; exact .inl (by simp)
          · rw [hm]
            rcases md_two t.lim (at' n f g h).1 t.base (by omega) hr.2.2.2 hv.1 hv.2 (by omega) (by omega) with hm2 | ⟨y, hm2, y0, y1⟩
            · rw [hm2]; exact .inl (by simp)
            · rw [hm2]; simp; omega
end Ex

/-- what Indexed returns -/
def LyPost (p : Int × Int × Int) (w : World) (e : Ending) (w' : World) : Prop := e = .returned (.tuple #[.agg #[.int .i64 p.1, .int .i64 p.2.1], .int .i64 p.2.2]) ∧ Below w.heap.size w w'
theorem LyPost.of {p : Int × Int × Int} {x y z : Int} {w w' : World} (h : (x, y, z) = p) (hb : Below w.heap.size w w') : LyPost p w (.returned (.tuple #[.agg #[.int .i64 x, .int .i64 y], .int .i64 z])) w' := by
  subst h
  exact ⟨rfl, hb⟩

theorem ly_out (W : World) (b : Nat) (x y e : Int) (tmps : Array Value) (h : Has W b #[.int .i64 x, .int .i64 y] 36)
    (ht : tmps.getD 6 undef = .pointer (some ⟨b, 0, none⟩)) (h5 : tmps.getD 7 undef = .int .i64 e) :
    (results Try.f33 tmps).run Try.prog W = .ok (.tuple #[.agg #[.int .i64 x, .int .i64 y], .int .i64 e]) W := by
  have c0 := h.cell 0
  have c1 := h.cell 1
  simp only [List.getElem?_toArray, List.getElem?_cons_zero, List.getElem?_cons_succ] at c0 c1
  have ht' : tmps[6]?.getD undef = .pointer (some ⟨b, 0, none⟩) := by simpa using ht
  have h5' : tmps[7]?.getD undef = .int .i64 e := by simpa using h5
  simp [results, Try.results33, go_sem, ht', h5', c0, c1]

theorem rly_out (W : World) (b : Nat) (x y e : Int) (tmps : Array Value) (h : Has W b #[.int .i64 x, .int .i64 y] 36)
    (ht : tmps.getD 6 undef = .pointer (some ⟨b, 0, none⟩)) (h5 : tmps.getD 7 undef = .int .i64 e) :
    (results Try.f34 tmps).run Try.prog W = .ok (.tuple #[.agg #[.int .i64 x, .int .i64 y], .int .i64 e]) W := by
  have c0 := h.cell 0
  have c1 := h.cell 1
  simp only [List.getElem?_toArray, List.getElem?_cons_zero, List.getElem?_cons_succ] at c0 c1
  have ht' : tmps[6]?.getD undef = .pointer (some ⟨b, 0, none⟩) := by simpa using ht
  have h5' : tmps[7]?.getD undef = .int .i64 e := by simpa using h5
  simp [results, Try.results34, go_sem, ht', h5', c0, c1]

set_option maxRecDepth 100000 in
set_option maxHeartbeats 4000000 in
theorem indexed_any (t : Ty) (A : Option Addr) (n c : Nat) (f g : Nat → Int) (h : Int) (w : World) (hi : t.In w w.heap.size) (hn : n ≤ 9223372036854775807) (hp : Pairs w w.heap.size A n f g) :
    Calls Try.prog 33 #[.agg t.cells, .slice A n c, .int .i64 h] w (LyPost (Ex.ixd t n f g h) w) := by
  have HTI := Lib.hid ty_info
  obtain ⟨X, hX⟩ : ∃ X, Ex.ixd t n f g h = X := ⟨_, rfl⟩
  obtain ⟨R, hR⟩ : ∃ R, t.err = R := ⟨_, rfl⟩
  obtain ⟨⟨v, ve⟩, hv⟩ : ∃ v, Ex.at' n f g h = v := ⟨_, rfl⟩
  have HF : Hid ((R ≠ 0 → (0, 0, R) = X) ∧ (R = 0 → 1 ≤ t.kind ∧ t.kind ≤ 6) ∧ (R = 0 → t.kind < 4 → (0, 0, 11) = X) ∧ (R = 0 → 4 ≤ t.kind → ¬ (t.kind = 4 ∧ t.base ≠ 0) → (t.ret, t.lim, 0) = X) ∧
      (R = 0 → t.kind = 4 → t.base ≠ 0 → (0 ≤ t.ret ∧ t.ret ≤ 1073741824 ∧ 1 ≤ t.lim ∧ t.lim ≤ 1073741824 ∧ 1 ≤ t.base ∧ t.base ≤ 1000000000) ∧ (ve ≠ 0 → (0, 0, ve) = X) ∧
        (ve = 0 → (1 ≤ v ∧ v ≤ 1000000000) ∧ ((Am.md t.ret v t.base 4).2 ≠ 0 → (0, 0, 3) = X) ∧ ((Am.md t.ret v t.base 4).2 = 0 → ((Am.md t.lim v t.base 4).2 ≠ 0 → (0, 0, 3) = X) ∧ ((Am.md t.lim v t.base 4).2 = 0 → ((Am.md t.ret v t.base 4).1, (Am.md t.lim v t.base 4).1, 0) = X))))) := Lib.hid (by
    have hac := Ex.at_cases n f g h
    rw [← hX, ← hR]
    unfold Ex.ixd
    rw [hv] at hac ⊢
    refine ⟨fun c => by rw [if_pos c], fun c => (Ty.fine c).2.1, fun c d => by rw [if_neg (fun q => q c), if_pos d], fun c d e => by rw [if_neg (fun q => q c), if_neg (by omega), if_pos e], fun c d e => ?_⟩
    have he := Ty.fine c
    have hf := he.2.2.2.1
    have h4 := Ty.span hf 4 (by omega)
    have h5 := Ty.span hf 5 (by omega)
    have h9 := Ty.span hf 9 (by omega)
    rw [d] at h4 h5 h9
    simp [Ty.lo, Ty.hi, Ty.tab, Ty.val] at h4 h5 h9
    rw [if_neg (fun q => q c), if_neg (by omega), if_neg (fun q => q ⟨d, e⟩)]
    refine ⟨by omega, fun q => by rw [if_pos q], fun q => ⟨?_, fun r => ?_, fun r => ⟨fun s => ?_, fun s => ?_⟩⟩⟩
    · rcases hac with hac | hac
      · exact absurd q hac.2
      · exact hac.1
    · rw [if_neg (fun z => z q), if_pos r]
    · rw [if_neg (fun z => z q), if_neg (fun z => z r), if_pos s]
    · rw [if_neg (fun z => z q), if_neg (fun z => z r), if_neg (fun z => z s)])
  have C1 : Hid (∀ W, t.In W W.heap.size → Calls Try.prog 46 #[.agg t.cells] W (IntPost R W)) := Lib.hid fun W hW => by rw [← hR]; exact validate_any t W hW
  have C2 : Hid (∀ W, Pairs W W.heap.size A n f g → Calls Try.prog 23 #[.slice A n c, .int .i64 h] W (PairPost (v, ve) W)) := Lib.hid fun W hW => by rw [← hv]; exact exat_any A n c f g h W hn hW
  have HS := Lib.hid (Ty.Sits.new hi)
  have HP := Lib.hid hp
  rw [hX]
  clear hX hR hv hi hp
  go_enter Try.func33, Try.ntmps33
  go_upto_region 1 with (fail)
  obtain ⟨w1, hw1⟩ : ∃ w1, w.alloc (.cells t.cells 59) = w1 := ⟨_, rfl⟩; obtain ⟨G, hG⟩ : ∃ G, w.heap.size = G := ⟨_, rfl⟩; have HSZ : Hid (w1.heap.size = G + 1) := Lib.hid (by rw [← hw1, ← hG]; simp); rw [hw1, hG] at HS ⊢; clear hw1 hG
  have HZ := Lib.hid (Has.new w1 #[.int .i64 0, .int .i64 0] 36)
  replace HS := Lib.hid (HS.out.alloc (.cells #[.int .i64 0, .int .i64 0] 36))
  have hsz : w1.heap.size = G + 1 := by have := HSZ.out; omega
  obtain ⟨w2, hw2⟩ : ∃ W, w1.alloc (.cells #[.int .i64 0, .int .i64 0] 36) = W := ⟨_, rfl⟩
  rw [hw2, hsz] at HZ
  rw [hw2] at HS
  rw [hw2]
  clear hw2 hsz HSZ
  go_wp2_with ((refine wpList_load_has ?_ 59 (.tmp 3) ?_ G ?_ _ t.cells _ HS.out.box Try.underlying59 ?_ HTI.out ?_; rfl; rfl; rfl; rfl))
  refine (C1.out _ HS.out.inn).mono ?_
  rintro e w3 ⟨rfl, hb⟩
  replace HS := Lib.hid (HS.out.next hb)
  replace HZ := Lib.hid (HZ.out.below hb HZ.out.lt)
  clear hb C1
  obtain ⟨z0, z1, z2⟩ := HZ.out.rules
  by_cases hq : R = 0
  rotate_left
  · have HG : Hid ((0, 0, R) = X) := Lib.hid (HF.out.1 hq)
    have hq1 : (R == 0) = false := by rw [beq_eq_false_iff_ne]; exact hq
    have hq2 : (R != 0) = true := by simp [hq]
    clear HF hq
    go_wp2_with fail
    refine bodyPost_ret (ly_out _ (G + 1) _ _ _ _ ((HZ.out.put 0 _).put 1 _) rfl rfl) rfl ?_
    exact LyPost.of HG.out ((HS.out.out.setCell (by rw [HS.out.sz]; simp) _).setCell (by rw [HS.out.sz]; simp) _)
  subst hq
  have x1 : w3.cell? ⟨G, 1, none⟩ = some (.int .i64 t.kind) := HS.out.box.cell 1
  have x10 : w3.cell? ⟨G, 10, none⟩ = some (.int .i64 t.ret) := HS.out.box.cell 10
  have x11 : w3.cell? ⟨G, 11, none⟩ = some (.int .i64 t.lim) := HS.out.box.cell 11
  have x18 : w3.cell? ⟨G, 18, none⟩ = some (.int .i64 t.base) := HS.out.box.cell 18
  have xl := HS.out.lt
  obtain ⟨kd, hkd⟩ : ∃ k, t.kind = k := ⟨_, rfl⟩
  obtain ⟨bs, hbs⟩ : ∃ k, t.base = k := ⟨_, rfl⟩
  obtain ⟨re, hre⟩ : ∃ k, t.ret = k := ⟨_, rfl⟩
  obtain ⟨li, hli⟩ : ∃ k, t.lim = k := ⟨_, rfl⟩
  rw [hkd] at x1 HF
  rw [hbs] at x18 HF
  rw [hre] at x10 HF
  rw [hli] at x11 HF
  have HRL : Hid (t.ret = re ∧ t.lim = li ∧ t.base = bs) := Lib.hid ⟨hre, hli, hbs⟩
  clear hkd hbs hre hli
  have hkb := HF.out.2.1 rfl
  by_cases hk4 : kd < 4
  · have HG : Hid ((0, 0, 11) = X) := Lib.hid (HF.out.2.2.1 rfl hk4)
    have hk : kd = 1 ∨ kd = 2 ∨ kd = 3 := by omega
    clear HF hkb hk4
    rcases hk with rfl | rfl | rfl
    all_goals
      go_wp2_with fail
      refine bodyPost_ret (ly_out _ (G + 1) _ _ _ _ ((HZ.out.put 0 _).put 1 _) rfl rfl) rfl ?_
      exact LyPost.of HG.out ((HS.out.out.setCell (by rw [HS.out.sz]; simp) _).setCell (by rw [HS.out.sz]; simp) _)
  have hk44 : 4 ≤ kd := by omega
  have HK4 := Lib.hid hk44
  by_cases hk : ¬ (kd = 4 ∧ bs ≠ 0)
  · have HG : Hid ((re, li, 0) = X) := Lib.hid (HF.out.2.2.2.1 rfl hk44 hk)
    have hk' : kd = 4 ∧ bs = 0 ∨ kd = 5 ∨ kd = 6 := by omega
    clear HF hkb hk4 hk44 hk
    rcases hk' with ⟨rfl, rfl⟩ | rfl | rfl
    all_goals
      go_wp2_with fail
      refine bodyPost_ret (ly_out _ (G + 1) _ _ _ _ ((HZ.out.put 0 _).put 1 _) rfl rfl) rfl ?_
      exact LyPost.of HG.out ((HS.out.out.setCell (by rw [HS.out.sz]; simp) _).setCell (by rw [HS.out.sz]; simp) _)
  obtain ⟨rfl, hb0⟩ : kd = 4 ∧ bs ≠ 0 := Classical.not_not.1 hk
  obtain ⟨hbd, hve, hrest⟩ := HF.out.2.2.2.2 rfl rfl hb0
  obtain ⟨r0, r1, l0, l1, b0, b1⟩ := hbd
  have HVE := Lib.hid hve
  have HRE := Lib.hid hrest
  have hb1 : (bs == 0) = false := by rw [beq_eq_false_iff_ne]; exact hb0
  clear HF hkb hk4 hk44 hk hve hrest hb0
  go_wp2_with fail
  refine (C2.out _ ((HP.out.below HS.out.out).mono HS.out.le)).mono ?_
  rintro e w4 ⟨rfl, hb⟩
  replace HS := Lib.hid (HS.out.next hb)
  replace HZ := Lib.hid (HZ.out.below hb HZ.out.lt)
  clear hb C2 x1 x10 x11 x18 xl z0 z1 z2
  obtain ⟨z0, z1, z2⟩ := HZ.out.rules
  by_cases hq : ve = 0
  rotate_left
  · have HG : Hid ((0, 0, ve) = X) := Lib.hid (HVE.out hq)
    have hq1 : (ve == 0) = false := by rw [beq_eq_false_iff_ne]; exact hq
    have hq2 : (ve != 0) = true := by simp [hq]
    clear HVE HRE hq
    go_wp2_with fail
    refine bodyPost_ret (ly_out _ (G + 1) _ _ _ _ ((HZ.out.put 0 _).put 1 _) rfl rfl) rfl ?_
    exact LyPost.of HG.out ((HS.out.out.setCell (by rw [HS.out.sz]; simp) _).setCell (by rw [HS.out.sz]; simp) _)
  subst hq
  have x10 : w4.cell? ⟨G, 10, none⟩ = some (.int .i64 t.ret) := HS.out.box.cell 10
  have x11 : w4.cell? ⟨G, 11, none⟩ = some (.int .i64 t.lim) := HS.out.box.cell 11
  have x18 : w4.cell? ⟨G, 18, none⟩ = some (.int .i64 t.base) := HS.out.box.cell 18
  rw [HRL.out.1] at x10
  rw [HRL.out.2.1] at x11
  rw [HRL.out.2.2] at x18
  obtain ⟨⟨v0, v1⟩, hm1, hm2⟩ := HRE.out rfl
  have C3 := fun W => muldiv_any re v bs 4 W
  have C4 := fun W => muldiv_any li v bs 4 W
  have HM1 := Lib.hid hm1
  have HM2 := Lib.hid hm2
  clear HRE HVE hm1 hm2
  rcases Ex.md_two re v bs r0 r1 v0 v1 b0 b1 with hm | ⟨x, hm, hx0, hx1⟩
  · have HG : Hid ((0, 0, 3) = X) := Lib.hid (HM1.out (by rw [hm]; simp))
    simp only [hm] at C3
    have K3 := Lib.hid C3
    clear C3 C4 hm HM1 HM2
    go_wp2_with ((go_at_call 43; refine (K3.out _).mono ?_; rintro e w' ⟨rfl, nq, rfl⟩))
    refine bodyPost_ret (ly_out _ (G + 1) _ _ _ _ (((HZ.out.drewN _).put 0 _).put 1 _) rfl rfl) rfl ?_
    exact LyPost.of HG.out (((HS.out.drewN _).out.setCell (by rw [HS.out.sz]; simp) _).setCell (by rw [HS.out.sz]; simp) _)
  have hm3 := HM2.out (by rw [hm])
  simp only [hm] at C3 hm3
  have K3 := Lib.hid C3
  have HM3 := Lib.hid hm3
  clear C3 hm HM1 HM2 hm3
  go_wp2_with fail
  refine (K3.out _).mono ?_
  rintro e w' ⟨rfl, nq, rfl⟩
  rcases Ex.md_two li v bs (by omega) l1 v0 v1 b0 b1 with hm | ⟨y, hm, hy0, hy1⟩
  · have HG : Hid ((0, 0, 3) = X) := Lib.hid (HM3.out.1 (by rw [hm]; simp))
    simp only [hm] at C4
    have K4 := Lib.hid C4
    clear C4 hm HM3
    go_wp2_with ((go_at_call 43; refine (K4.out _).mono ?_; rintro e w' ⟨rfl, nq2, rfl⟩))
    refine bodyPost_ret (ly_out _ (G + 1) _ _ _ _ (((HZ.out.drewN _).put 0 _).put 1 _) rfl rfl) rfl ?_
    exact LyPost.of HG.out (((HS.out.drewN _).out.setCell (by rw [HS.out.sz]; simp) _).setCell (by rw [HS.out.sz]; simp) _)
  · have HG : Hid ((x, y, 0) = X) := Lib.hid (by have := HM3.out.2 (by rw [hm]); rw [hm] at this; exact this)
    simp only [hm] at C4
    have K4 := Lib.hid C4
    clear C4 hm HM3
    go_wp2_with ((go_at_call 43; refine (K4.out _).mono ?_; rintro e w' ⟨rfl, nq2, rfl⟩))
    refine bodyPost_ret (ly_out _ (G + 1) _ _ _ _ (((HZ.out.drewN _).put 0 _).put 1 _) rfl rfl) rfl ?_
    exact LyPost.of HG.out (((HS.out.drewN _).out.setCell (by rw [HS.out.sz]; simp) _).setCell (by rw [HS.out.sz]; simp) _)

set_option maxRecDepth 100000 in
set_option maxHeartbeats 4000000 in
theorem rindexed_any (t : Ty) (A : Option Addr) (n c : Nat) (f g : Nat → Int) (h : Int) (w : World) (hi : t.In w w.heap.size) (hn : n ≤ 9223372036854775807) (hp : Pairs w w.heap.size A n f g) :
    Calls Try.prog 34 #[.agg t.cells, .slice A n c, .int .i64 h] w (LyPost (Ex.ixd t n f g h) w) := by
  have HTI := Lib.hid ty_info
  obtain ⟨X, hX⟩ : ∃ X, Ex.ixd t n f g h = X := ⟨_, rfl⟩
  obtain ⟨R, hR⟩ : ∃ R, t.err = R := ⟨_, rfl⟩
  obtain ⟨⟨v, ve⟩, hv⟩ : ∃ v, Ex.at' n f g h = v := ⟨_, rfl⟩
  have HF : Hid ((R ≠ 0 → (0, 0, R) = X) ∧ (R = 0 → 1 ≤ t.kind ∧ t.kind ≤ 6) ∧ (R = 0 → t.kind < 4 → (0, 0, 11) = X) ∧ (R = 0 → 4 ≤ t.kind → ¬ (t.kind = 4 ∧ t.base ≠ 0) → (t.ret, t.lim, 0) = X) ∧
      (R = 0 → t.kind = 4 → t.base ≠ 0 → (0 ≤ t.ret ∧ t.ret ≤ 1073741824 ∧ 1 ≤ t.lim ∧ t.lim ≤ 1073741824 ∧ 1 ≤ t.base ∧ t.base ≤ 1000000000) ∧ (ve ≠ 0 → (0, 0, ve) = X) ∧
        (ve = 0 → (1 ≤ v ∧ v ≤ 1000000000) ∧ ((Am.md t.ret v t.base 4).2 ≠ 0 → (0, 0, 3) = X) ∧ ((Am.md t.ret v t.base 4).2 = 0 → ((Am.md t.lim v t.base 4).2 ≠ 0 → (0, 0, 3) = X) ∧ ((Am.md t.lim v t.base 4).2 = 0 → ((Am.md t.ret v t.base 4).1, (Am.md t.lim v t.base 4).1, 0) = X))))) := Lib.hid (by
    have hac := Ex.at_cases n f g h
    rw [← hX, ← hR]
    unfold Ex.ixd
    rw [hv] at hac ⊢
    refine ⟨fun c => by rw [if_pos c], fun c => (Ty.fine c).2.1, fun c d => by rw [if_neg (fun q => q c), if_pos d], fun c d e => by rw [if_neg (fun q => q c), if_neg (by omega), if_pos e], fun c d e => ?_⟩
    have he := Ty.fine c
    have hf := he.2.2.2.1
    have h4 := Ty.span hf 4 (by omega)
    have h5 := Ty.span hf 5 (by omega)
    have h9 := Ty.span hf 9 (by omega)
    rw [d] at h4 h5 h9
    simp [Ty.lo, Ty.hi, Ty.tab, Ty.val] at h4 h5 h9
    rw [if_neg (fun q => q c), if_neg (by omega), if_neg (fun q => q ⟨d, e⟩)]
    refine ⟨by omega, fun q => by rw [if_pos q], fun q => ⟨?_, fun r => ?_, fun r => ⟨fun s => ?_, fun s => ?_⟩⟩⟩
    · rcases hac with hac | hac
      · exact absurd q hac.2
      · exact hac.1
    · rw [if_neg (fun z => z q), if_pos r]
    · rw [if_neg (fun z => z q), if_neg (fun z => z r), if_pos s]
    · rw [if_neg (fun z => z q), if_neg (fun z => z r), if_neg (fun z => z s)])
  have C1 : Hid (∀ W, t.In W W.heap.size → Calls Try.prog 47 #[.agg t.cells] W (IntPost R W)) := Lib.hid fun W hW => by rw [← hR]; exact rvalidate_any t W hW
  have C2 : Hid (∀ W, Pairs W W.heap.size A n f g → Calls Try.prog 24 #[.slice A n c, .int .i64 h] W (PairPost (v, ve) W)) := Lib.hid fun W hW => by rw [← hv]; exact rindexat_any A n c f g h W hn hW
  have HS := Lib.hid (Ty.Sits.new hi)
  have HP := Lib.hid hp
  rw [hX]
  clear hX hR hv hi hp
  go_enter Try.func34, Try.ntmps34
  go_upto_region 1 with (fail)
  obtain ⟨w1, hw1⟩ : ∃ w1, w.alloc (.cells t.cells 59) = w1 := ⟨_, rfl⟩; obtain ⟨G, hG⟩ : ∃ G, w.heap.size = G := ⟨_, rfl⟩; have HSZ : Hid (w1.heap.size = G + 1) := Lib.hid (by rw [← hw1, ← hG]; simp); rw [hw1, hG] at HS ⊢; clear hw1 hG
  have HZ := Lib.hid (Has.new w1 #[.int .i64 0, .int .i64 0] 36)
  replace HS := Lib.hid (HS.out.alloc (.cells #[.int .i64 0, .int .i64 0] 36))
  have hsz : w1.heap.size = G + 1 := by have := HSZ.out; omega
  obtain ⟨w2, hw2⟩ : ∃ W, w1.alloc (.cells #[.int .i64 0, .int .i64 0] 36) = W := ⟨_, rfl⟩
  rw [hw2, hsz] at HZ
  rw [hw2] at HS
  rw [hw2]
  clear hw2 hsz HSZ
  go_wp2_with ((refine wpList_load_has ?_ 59 (.tmp 3) ?_ G ?_ _ t.cells _ HS.out.box Try.underlying59 ?_ HTI.out ?_; rfl; rfl; rfl; rfl))
  refine (C1.out _ HS.out.inn).mono ?_
  rintro e w3 ⟨rfl, hb⟩
  replace HS := Lib.hid (HS.out.next hb)
  replace HZ := Lib.hid (HZ.out.below hb HZ.out.lt)
  clear hb C1
  obtain ⟨z0, z1, z2⟩ := HZ.out.rules
  by_cases hq : R = 0
  rotate_left
  · have HG : Hid ((0, 0, R) = X) := Lib.hid (HF.out.1 hq)
    have hq1 : (R == 0) = false := by rw [beq_eq_false_iff_ne]; exact hq
    have hq2 : (R != 0) = true := by simp [hq]
    clear HF hq
    go_wp2_with fail
    refine bodyPost_ret (rly_out _ (G + 1) _ _ _ _ ((HZ.out.put 0 _).put 1 _) rfl rfl) rfl ?_
    exact LyPost.of HG.out ((HS.out.out.setCell (by rw [HS.out.sz]; simp) _).setCell (by rw [HS.out.sz]; simp) _)
  subst hq
  have x1 : w3.cell? ⟨G, 1, none⟩ = some (.int .i64 t.kind) := HS.out.box.cell 1
  have x10 : w3.cell? ⟨G, 10, none⟩ = some (.int .i64 t.ret) := HS.out.box.cell 10
  have x11 : w3.cell? ⟨G, 11, none⟩ = some (.int .i64 t.lim) := HS.out.box.cell 11
  have x18 : w3.cell? ⟨G, 18, none⟩ = some (.int .i64 t.base) := HS.out.box.cell 18
  have xl := HS.out.lt
  obtain ⟨kd, hkd⟩ : ∃ k, t.kind = k := ⟨_, rfl⟩
  obtain ⟨bs, hbs⟩ : ∃ k, t.base = k := ⟨_, rfl⟩
  obtain ⟨re, hre⟩ : ∃ k, t.ret = k := ⟨_, rfl⟩
  obtain ⟨li, hli⟩ : ∃ k, t.lim = k := ⟨_, rfl⟩
  rw [hkd] at x1 HF
  rw [hbs] at x18 HF
  rw [hre] at x10 HF
  rw [hli] at x11 HF
  have HRL : Hid (t.ret = re ∧ t.lim = li ∧ t.base = bs) := Lib.hid ⟨hre, hli, hbs⟩
  clear hkd hbs hre hli
  have hkb := HF.out.2.1 rfl
  by_cases hk4 : kd < 4
  · have HG : Hid ((0, 0, 11) = X) := Lib.hid (HF.out.2.2.1 rfl hk4)
    have hk : kd = 1 ∨ kd = 2 ∨ kd = 3 := by omega
    clear HF hkb hk4
    rcases hk with rfl | rfl | rfl
    all_goals
      go_wp2_with fail
      refine bodyPost_ret (rly_out _ (G + 1) _ _ _ _ ((HZ.out.put 0 _).put 1 _) rfl rfl) rfl ?_
      exact LyPost.of HG.out ((HS.out.out.setCell (by rw [HS.out.sz]; simp) _).setCell (by rw [HS.out.sz]; simp) _)
  have hk44 : 4 ≤ kd := by omega
  have HK4 := Lib.hid hk44
  by_cases hk : ¬ (kd = 4 ∧ bs ≠ 0)
  · have HG : Hid ((re, li, 0) = X) := Lib.hid (HF.out.2.2.2.1 rfl hk44 hk)
    have hk' : kd = 4 ∧ bs = 0 ∨ kd = 5 ∨ kd = 6 := by omega
    clear HF hkb hk4 hk44 hk
    rcases hk' with ⟨rfl, rfl⟩ | rfl | rfl
    all_goals
      go_wp2_with fail
      refine bodyPost_ret (rly_out _ (G + 1) _ _ _ _ (((HZ.out.put 0 _).put 1 _).alloc _) rfl rfl) rfl ?_
      exact LyPost.of HG.out (((HS.out.out.setCell (by rw [HS.out.sz]; simp) _).setCell (by rw [HS.out.sz]; simp) _).alloc (by simp; exact HS.out.le) _)
  obtain ⟨rfl, hb0⟩ : kd = 4 ∧ bs ≠ 0 := Classical.not_not.1 hk
  obtain ⟨hbd, hve, hrest⟩ := HF.out.2.2.2.2 rfl rfl hb0
  obtain ⟨r0, r1, l0, l1, b0, b1⟩ := hbd
  have HVE := Lib.hid hve
  have HRE := Lib.hid hrest
  have hb1 : (bs == 0) = false := by rw [beq_eq_false_iff_ne]; exact hb0
  clear HF hkb hk4 hk44 hk hve hrest hb0
  go_wp2_with fail
  replace HS := Lib.hid (HS.out.alloc (.cells #[.int .i64 re, .int .i64 li] 36))
  replace HZ := Lib.hid (HZ.out.alloc (.cells #[.int .i64 re, .int .i64 li] 36))
  obtain ⟨w3', hw3⟩ : ∃ W, w3.alloc (.cells #[.int .i64 re, .int .i64 li] 36) = W := ⟨_, rfl⟩
  rw [hw3] at HS HZ ⊢
  clear hw3
  refine (C2.out _ ((HP.out.below HS.out.out).mono HS.out.le)).mono ?_
  rintro e w4 ⟨rfl, hb⟩
  replace HS := Lib.hid (HS.out.next hb)
  replace HZ := Lib.hid (HZ.out.below hb HZ.out.lt)
  clear hb C2 x1 x10 x11 x18 xl z0 z1 z2
  obtain ⟨z0, z1, z2⟩ := HZ.out.rules
  by_cases hq : ve = 0
  rotate_left
  · have HG : Hid ((0, 0, ve) = X) := Lib.hid (HVE.out hq)
    have hq1 : (ve == 0) = false := by rw [beq_eq_false_iff_ne]; exact hq
    have hq2 : (ve != 0) = true := by simp [hq]
    clear HVE HRE hq
    go_wp2_with fail
    refine bodyPost_ret (rly_out _ (G + 1) _ _ _ _ ((HZ.out.put 0 _).put 1 _) rfl rfl) rfl ?_
    exact LyPost.of HG.out ((HS.out.out.setCell (by rw [HS.out.sz]; simp) _).setCell (by rw [HS.out.sz]; simp) _)
  subst hq
  have x10 : w4.cell? ⟨G, 10, none⟩ = some (.int .i64 t.ret) := HS.out.box.cell 10
  have x11 : w4.cell? ⟨G, 11, none⟩ = some (.int .i64 t.lim) := HS.out.box.cell 11
  have x18 : w4.cell? ⟨G, 18, none⟩ = some (.int .i64 t.base) := HS.out.box.cell 18
  rw [HRL.out.1] at x10
  rw [HRL.out.2.1] at x11
  rw [HRL.out.2.2] at x18
  obtain ⟨⟨v0, v1⟩, hm1, hm2⟩ := HRE.out rfl
  have C3 := fun W => rmuldiv_any re v bs 4 W
  have C4 := fun W => rmuldiv_any li v bs 4 W
  have HM1 := Lib.hid hm1
  have HM2 := Lib.hid hm2
  clear HRE HVE hm1 hm2
  rcases Ex.md_two re v bs r0 r1 v0 v1 b0 b1 with hm | ⟨x, hm, hx0, hx1⟩
  · have HG : Hid ((0, 0, 3) = X) := Lib.hid (HM1.out (by rw [hm]; simp))
    simp only [hm] at C3
    have K3 := Lib.hid C3
    have K4 := Lib.hid C4
    clear C3 C4 hm HM1 HM2
    go_wp2_with fail
    refine (K3.out _).mono ?_
    rintro e w' ⟨rfl, nq, rfl⟩
    go_wp2_with fail
    refine (K4.out _).mono ?_
    rintro e w' ⟨rfl, nq2, rfl⟩
    go_wp2_with fail
    refine bodyPost_ret (rly_out _ (G + 1) _ _ _ _ (((HZ.out.drewN _).put 0 _).put 1 _) rfl rfl) rfl ?_
    exact LyPost.of HG.out (((HS.out.drewN _).out.setCell (by rw [HS.out.sz]; simp) _).setCell (by rw [HS.out.sz]; simp) _)
  have hm3 := HM2.out (by rw [hm])
  simp only [hm] at C3 hm3
  have K3 := Lib.hid C3
  have HM3 := Lib.hid hm3
  clear C3 hm HM1 HM2 hm3
  go_wp2_with fail
  refine (K3.out _).mono ?_
  rintro e w' ⟨rfl, nq, rfl⟩
  rcases Ex.md_two li v bs (by omega) l1 v0 v1 b0 b1 with hm | ⟨y, hm, hy0, hy1⟩
  · have HG : Hid ((0, 0, 3) = X) := Lib.hid (HM3.out.1 (by rw [hm]; simp))
    simp only [hm] at C4
    have K4 := Lib.hid C4
    clear C4 hm HM3
    go_wp2_with ((go_at_call 44; refine (K4.out _).mono ?_; rintro e w' ⟨rfl, nq2, rfl⟩))
    refine bodyPost_ret (rly_out _ (G + 1) _ _ _ _ (((HZ.out.drewN _).put 0 _).put 1 _) rfl rfl) rfl ?_
    exact LyPost.of HG.out (((HS.out.drewN _).out.setCell (by rw [HS.out.sz]; simp) _).setCell (by rw [HS.out.sz]; simp) _)
  · have HG : Hid ((x, y, 0) = X) := Lib.hid (by have := HM3.out.2 (by rw [hm]); rw [hm] at this; exact this)
    simp only [hm] at C4
    have K4 := Lib.hid C4
    clear C4 hm HM3
    go_wp2_with ((go_at_call 44; refine (K4.out _).mono ?_; rintro e w' ⟨rfl, nq2, rfl⟩))
    refine bodyPost_ret (rly_out _ (G + 1) _ _ _ _ (((HZ.out.drewN _).put 0 _).put 1 _) rfl rfl) rfl ?_
    exact LyPost.of HG.out (((HS.out.drewN _).out.setCell (by rw [HS.out.sz]; simp) _).setCell (by rw [HS.out.sz]; simp) _)
end Go.Proofs.Ytigoeaidlgofoaa

namespace Go.Proofs.Ytigoeaidlgofoaa
open Go.RowKit
set_option linter.unusedVariables false

/-- what Cede returns -/
def CsPost (p : Int × Int × Int × Int) (w : World) (e : Ending) (w' : World) : Prop := e = .returned (.tuple #[.agg #[.int .i64 p.1, .int .i64 p.2.1, .int .i64 p.2.2.1], .int .i64 p.2.2.2]) ∧ Below w.heap.size w w'
theorem CsPost.of {p : Int × Int × Int × Int} {x y z u : Int} {w w' : World} (h : (x, y, z, u) = p) (hb : Below w.heap.size w w') : CsPost p w (.returned (.tuple #[.agg #[.int .i64 x, .int .i64 y, .int .i64 z], .int .i64 u])) w' := by
  subst h
  exact ⟨rfl, hb⟩

/-- blocks that were made ahead of a call are as they were -/
theorem past1 {w wA : World} {cs : Array Value} {t : TypeId} (hb : Below ((w.alloc (.cells cs t)).drew).heap.size ((w.alloc (.cells cs t)).drew) wA) : Has wA w.heap.size cs t :=
  (Has.new w cs t).drew.below hb (Has.new w cs t).drew.lt
theorem past2 {w wA : World} {cs cs2 : Array Value} {t t2 : TypeId} (hb : Below (((w.alloc (.cells cs t)).alloc (.cells cs2 t2)).drew).heap.size (((w.alloc (.cells cs t)).alloc (.cells cs2 t2)).drew) wA) :
    Has wA w.heap.size cs t ∧ Has wA (w.heap.size + 1) cs2 t2 := by
  have h2 : Has ((w.alloc (.cells cs t)).alloc (.cells cs2 t2)) (w.heap.size + 1) cs2 t2 := Has.new' _ _ _ _ (by simp)
  exact ⟨((Has.new w cs t).alloc (.cells cs2 t2)).drew.below hb ((Has.new w cs t).alloc (.cells cs2 t2)).drew.lt, h2.drew.below hb h2.drew.lt⟩

theorem box2 {W : World} {L : Nat} {x y : Int} (h : Has W L #[.int .i64 x, .int .i64 y] 36) : W.cell? ⟨L, 0, none⟩ = some (.int .i64 x) ∧ W.cell? ⟨L, 1, none⟩ = some (.int .i64 y) := ⟨h.cell 0, h.cell 1⟩

theorem cs_out (W : World) (b : Nat) (x y z e : Int) (tmps : Array Value) (h : Has W b #[.int .i64 x, .int .i64 y, .int .i64 z] 66)
    (ht : tmps.getD 8 undef = .pointer (some ⟨b, 0, none⟩)) (h5 : tmps.getD 9 undef = .int .i64 e) :
    (results Try.f35 tmps).run Try.prog W = .ok (.tuple #[.agg #[.int .i64 x, .int .i64 y, .int .i64 z], .int .i64 e]) W := by
  have c0 := h.cell 0
  have c1 := h.cell 1
  have c2 := h.cell 2
  simp only [List.getElem?_toArray, List.getElem?_cons_zero, List.getElem?_cons_succ] at c0 c1 c2
  have ht' : tmps[8]?.getD undef = .pointer (some ⟨b, 0, none⟩) := by simpa using ht
  have h5' : tmps[9]?.getD undef = .int .i64 e := by simpa using h5
  simp [results, Try.results35, go_sem, ht', h5', c0, c1, c2]

theorem rcs_out (W : World) (b : Nat) (x y z e : Int) (tmps : Array Value) (h : Has W b #[.int .i64 x, .int .i64 y, .int .i64 z] 66)
    (ht : tmps.getD 8 undef = .pointer (some ⟨b, 0, none⟩)) (h5 : tmps.getD 9 undef = .int .i64 e) :
    (results Try.f36 tmps).run Try.prog W = .ok (.tuple #[.agg #[.int .i64 x, .int .i64 y, .int .i64 z], .int .i64 e]) W := by
  have c0 := h.cell 0
  have c1 := h.cell 1
  have c2 := h.cell 2
  simp only [List.getElem?_toArray, List.getElem?_cons_zero, List.getElem?_cons_succ] at c0 c1 c2
  have ht' : tmps[8]?.getD undef = .pointer (some ⟨b, 0, none⟩) := by simpa using ht
  have h5' : tmps[9]?.getD undef = .int .i64 e := by simpa using h5
  simp [results, Try.results36, go_sem, ht', h5', c0, c1, c2]

set_option maxRecDepth 100000 in
set_option maxHeartbeats 4000000 in
theorem cede_any (t : Ty) (A : Option Addr) (n c : Nat) (f g : Nat → Int) (h a : Int) (w : World) (hi : t.In w w.heap.size) (hn : n ≤ 9223372036854775807) (hp : Pairs w w.heap.size A n f g) :
    Calls Try.prog 35 #[.agg t.cells, .slice A n c, .int .i64 h, .int .i64 a] w (CsPost (Ex.ced (Ex.ixd t n f g h) a) w) := by
  have HTI := Lib.hid ty_info
  obtain ⟨X, hX⟩ : ∃ X, Ex.ced (Ex.ixd t n f g h) a = X := ⟨_, rfl⟩
  obtain ⟨⟨x, y, z⟩, hI⟩ : ∃ v, Ex.ixd t n f g h = v := ⟨_, rfl⟩
  have hbd := Ex.ixd_bound (t := t) (n := n) (f := f) (g := g) (h := h)
  rw [hI] at hbd hX
  simp only at hbd
  have HF : Hid ((z ≠ 0 → (0, 0, 0, z) = X) ∧ (z = 0 → ¬ (0 ≤ a ∧ a ≤ 17592186044416) → (0, 0, 0, 1) = X) ∧ (z = 0 → 0 ≤ a ∧ a ≤ 17592186044416 → (Ex.layer a x y, min a x, a - Ex.layer a x y - min a x, 0) = X)) := Lib.hid (by
    rw [← hX]
    unfold Ex.ced
    exact ⟨fun c => by rw [if_pos c], fun c d => by rw [if_neg (fun q => q c), if_pos d], fun c d => by rw [if_neg (fun q => q c), if_neg (fun q => q d)]⟩)
  have HBD := Lib.hid hbd
  have C1 : Hid (∀ W, t.In W W.heap.size → Pairs W W.heap.size A n f g → Calls Try.prog 33 #[.agg t.cells, .slice A n c, .int .i64 h] W (LyPost (x, y, z) W)) := Lib.hid fun W hW hV => by rw [← hI]; exact indexed_any t A n c f g h W hW hn hV
  have HS := Lib.hid (Ty.Sits.new hi)
  have HP := Lib.hid hp
  rw [hI, hX]
  clear hX hI hi hp hbd
  go_enter Try.func35, Try.ntmps35
  go_upto_region 1 with (fail)
  obtain ⟨w1, hw1⟩ : ∃ w1, w.alloc (.cells t.cells 59) = w1 := ⟨_, rfl⟩; obtain ⟨G, hG⟩ : ∃ G, w.heap.size = G := ⟨_, rfl⟩; have HSZ : Hid (w1.heap.size = G + 1) := Lib.hid (by rw [← hw1, ← hG]; simp); rw [hw1, hG] at HS ⊢; clear hw1 hG
  have HZ := Lib.hid (Has.new w1 #[.int .i64 0, .int .i64 0, .int .i64 0] 66)
  replace HS := Lib.hid (HS.out.alloc (.cells #[.int .i64 0, .int .i64 0, .int .i64 0] 66))
  have hsz : w1.heap.size = G + 1 := by have := HSZ.out; omega
  obtain ⟨w2, hw2⟩ : ∃ W, w1.alloc (.cells #[.int .i64 0, .int .i64 0, .int .i64 0] 66) = W := ⟨_, rfl⟩
  rw [hw2, hsz] at HZ
  rw [hw2] at HS
  rw [hw2]
  clear hw2 hsz HSZ
  go_wp2_with ((refine wpList_load_has ?_ 59 (.tmp 4) ?_ G ?_ _ t.cells _ HS.out.box Try.underlying59 ?_ HTI.out ?_; rfl; rfl; rfl; rfl))
  refine (C1.out _ HS.out.inn ((HP.out.below HS.out.out).mono HS.out.le)).mono ?_
  rintro e w3 ⟨rfl, hb⟩
  replace HS := Lib.hid (HS.out.next hb)
  replace HZ := Lib.hid (HZ.out.below hb HZ.out.lt)
  clear hb C1
  simp only
  go_upto_region 2 with (fail)
  have HL : Hid (Has (w3.alloc (.cells #[.int .i64 x, .int .i64 y] 36)) w3.heap.size #[.int .i64 x, .int .i64 y] 36) := Lib.hid (Has.new _ _ _)
  replace HS := Lib.hid (HS.out.alloc (.cells #[.int .i64 x, .int .i64 y] 36))
  replace HZ := Lib.hid (HZ.out.alloc (.cells #[.int .i64 x, .int .i64 y] 36))
  obtain ⟨w4, hw4⟩ : ∃ W, w3.alloc (.cells #[.int .i64 x, .int .i64 y] 36) = W := ⟨_, rfl⟩
  obtain ⟨L, hLs⟩ : ∃ L, w3.heap.size = L := ⟨_, rfl⟩
  rw [hw4] at HS HZ HL
  rw [hLs] at HL
  rw [hw4, hLs]
  clear hw4 hLs
  obtain ⟨z0, z1, z2⟩ := HZ.out.rules
  by_cases hq : z = 0
  rotate_left
  · have HG : Hid ((0, 0, 0, z) = X) := Lib.hid (HF.out.1 hq)
    have hq1 : (z == 0) = false := by rw [beq_eq_false_iff_ne]; exact hq
    have hq2 : (z != 0) = true := by simp [hq]
    clear HF HBD hq
    go_wp2_with fail
    refine bodyPost_ret (cs_out _ (G + 1) _ _ _ _ _ (((HZ.out.put 0 _).put 1 _).put 2 _) rfl rfl) rfl ?_
    exact CsPost.of HG.out (((HS.out.out.setCell (by rw [HS.out.sz]; simp) _).setCell (by rw [HS.out.sz]; simp) _).setCell (by rw [HS.out.sz]; simp) _)
  subst hq
  by_cases ha : 0 ≤ a ∧ a ≤ 17592186044416
  rotate_left
  · have HG : Hid ((0, 0, 0, 1) = X) := Lib.hid (HF.out.2.1 rfl ha)
    have hd : decide (0 ≤ a ∧ a ≤ 17592186044416) = false := by rw [decide_eq_false_iff_not]; exact ha
    clear HF HBD ha
    go_wp2_with ((go_at_call 40; refine (exwithin_any _ _ _ _).mono ?_; rintro e w' ⟨rfl, rfl⟩))
    refine bodyPost_ret (cs_out _ (G + 1) _ _ _ _ _ (((HZ.out.put 0 _).put 1 _).put 2 _) rfl rfl) rfl ?_
    exact CsPost.of HG.out (((HS.out.out.setCell (by rw [HS.out.sz]; simp) _).setCell (by rw [HS.out.sz]; simp) _).setCell (by rw [HS.out.sz]; simp) _)
  have HG : Hid ((Ex.layer a x y, min a x, a - Ex.layer a x y - min a x, 0) = X) := Lib.hid (HF.out.2.2 rfl ha)
  have hd : decide (0 ≤ a ∧ a ≤ 17592186044416) = true := by rw [decide_eq_true_iff]; exact ha
  have hbd : 0 ≤ x ∧ x ≤ 17592186044416 := by
    rcases HBD.out with h | h
    · exact absurd rfl h
    · exact ⟨h.1, h.2.1⟩
  have hly := Ex.layer_bound a x y
  obtain ⟨ly, hl⟩ : ∃ l, Ex.layer a x y = l := ⟨_, rfl⟩
  obtain ⟨mi, hm⟩ : ∃ l, min a x = l := ⟨_, rfl⟩
  have hmb : 0 ≤ mi ∧ mi ≤ 17592186044416 := by omega
  have HMI := Lib.hid hm
  rw [hl] at hly HG
  rw [hm] at HG
  obtain ⟨ly0, ly1⟩ := hly
  obtain ⟨mi0, mi1⟩ := hmb
  obtain ⟨a0, a1⟩ := ha
  obtain ⟨x0, x1⟩ := hbd
  have HLYR := Lib.hid hl
  clear HF HBD hl hm
  go_upto_region 6 with ((go_at_call 40; refine (exwithin_any _ _ _ _).mono ?_; rintro e w' ⟨rfl, rfl⟩))
  have CL : Hid (∀ W, Calls Try.prog 14 #[.int .i64 a, .int .i64 x, .int .i64 y] W (IntPost ly W)) := Lib.hid fun W => by rw [← HLYR.out]; exact layer_any a x y W
  have hLl := HL.out.lt
  obtain ⟨l0, l1⟩ : w4.cell? ⟨L, 0, none⟩ = some (.int .i64 x) ∧ w4.cell? ⟨L, 1, none⟩ = some (.int .i64 y) := ⟨HL.out.cell 0, HL.out.cell 1⟩
  go_cut [12] (fun p12 wx => ∃ P, p12 = .pointer (some ⟨P, 0, none⟩) ∧ Hid (Has wx P #[.int .i64 ly, .int .i64 mi, .int .i64 0] 66) ∧ Hid (Below w4.heap.size w4 wx) ∧ w4.heap.size ≤ P)
  case first =>
    have HW4 : Hid (L < w4.heap.size) := Lib.hid hLl
    clear HZ z0 z1 z2 HS HG
    go_region_held3 (fun w' => w'.cell? ⟨L, 0, none⟩ = some (.int .i64 x) ∧ w'.cell? ⟨L, 1, none⟩ = some (.int .i64 y)) (first | go_keep | (exact box2 (by (repeat' (first | (with_reducible exact HA.out) | (with_reducible refine Has.drew ?_) | (with_reducible refine Has.drewN ?_ _) | (with_reducible refine Has.alloc ?_ _) | (with_reducible refine Has.far ?_ ?_ _))) <;> (simp <;> omega))) | (exact box2 (by (repeat' (first | (with_reducible exact HL.out) | (with_reducible refine Has.drew ?_) | (with_reducible refine Has.drewN ?_ _) | (with_reducible refine Has.alloc ?_ _) | (with_reducible refine Has.far ?_ ?_ _))) <;> (simp <;> omega)))) (first
      | (go_at_call 14; refine (CL.out _).mono ?_; rintro e wA ⟨rfl, hb⟩; have r3 := hb.size; (first | (have hx2 := past2 (w := w4) hb; have HP1 := Lib.hid hx2.1; have HP2 := Lib.hid hx2.2; obtain ⟨s1, s2, s3⟩ := hx2.1.rules; obtain ⟨s4, s5, s6⟩ := hx2.2.rules; clear hx2) | (have hx1 := past1 (w := w4) hb; have HP1 := Lib.hid hx1; obtain ⟨s1, s2, s3⟩ := hx1.rules; clear hx1) | skip); have HB4 : Hid (Below w4.heap.size w4 wA) := Lib.hid (Below.trans (by repeat' (first | (with_reducible exact Below.refl _ _) | (with_reducible refine Below.drew ?_) | (with_reducible refine below_drewN ?_ _) | (with_reducible refine Below.alloc ?_ (by simp) _))) (hb.mono (by simp <;> omega))); have r6 := HB4.out.size; have HA : Hid (Has wA L #[.int .i64 x, .int .i64 y] 36) := Lib.hid (Has.below (by repeat' (first | (with_reducible exact HL.out) | (with_reducible refine Has.drew ?_) | (with_reducible refine Has.alloc ?_ _) | (with_reducible refine Has.drewN ?_ _))) hb (by first | exact hLl | (simp; omega))); have l0' : wA.cell? ⟨L, 0, none⟩ = some (.int .i64 x) := HA.out.cell 0; have l1' : wA.cell? ⟨L, 1, none⟩ = some (.int .i64 y) := HA.out.cell 1; have HBA := Lib.hid hb; have r4 := HA.out.lt)
      | (go_at_call 37; refine (least1 _ x _ _ ?_).mono ?_; exact Has.cell (show Has _ _ #[.int .i64 x] 3 from by (repeat' (first | (exact Has.new' _ _ _ _ (by simp; done)) | (with_reducible refine Has.alloc ?_ _) | (with_reducible refine Has.drew ?_) | (with_reducible refine Has.below ?_ HBA.out ?_))) <;> (simp <;> omega)) 0; rintro e w' ⟨rfl, rfl⟩))
    all_goals
      go_wp2_with fail
      go_meet
      case rel =>
        refine ⟨_, rfl, Lib.hid ?_, Lib.hid ?_, ?_⟩
        · rw [HMI.out]
          first
            | exact Has.new' _ _ _ _ (by simp)
            | exact (Has.new _ _ _).alloc _
            | exact ((HP2.out.put 0 _).put 1 _).put 2 _
            | exact ((HP1.out.put 0 _).put 1 _).put 2 _
            | exact (((HP1.out.put 0 _).put 1 _).put 2 _).alloc _
        · (repeat' (first | (with_reducible exact HB4.out) | (with_reducible refine Below.setCell ?_ ?_ _) | (with_reducible refine Below.alloc ?_ ?_ _))) <;> (first | omega | (simp <;> omega))
        · omega
  case rest =>
    obtain ⟨P, rfl, HC, HB, hP⟩ := hcut
    replace HS := Lib.hid (HS.out.next HB.out)
    replace HZ := Lib.hid (HZ.out.below HB.out HZ.out.lt)
    have hGP : G + 1 < P := by omega
    clear z0 z1 z2 l0 l1 hLl HL HB hP
    obtain ⟨z0, z1, z2⟩ := HZ.out.rules
    obtain ⟨c0, c1, c2⟩ := HC.out.rules
    have hne : G + 1 ≠ P := by omega
    go_upto_region 8 with (fail)
    have HC2 := Lib.hid (HC.out.put 2 (.int .i64 (a - ly - mi)))
    have HZ2 := Lib.hid (HZ.out.far (p := ⟨P, 2, none⟩) (by simp only; omega) (.int .i64 (a - ly - mi)))
    have HB2 : Hid (Below w.heap.size w (wc.setCell ⟨P, 2, none⟩ (.int .i64 (a - ly - mi)))) := Lib.hid (HS.out.out.setCell (by rw [HS.out.sz]; simp only; omega) _)
    obtain ⟨w9, hw9⟩ : ∃ W, wc.setCell ⟨P, 2, none⟩ (.int .i64 (a - ly - mi)) = W := ⟨_, rfl⟩
    rw [hw9] at HC2 HZ2 HB2 ⊢
    have HGW : Hid (w.heap.size ≤ G) := Lib.hid (Nat.le_of_eq HS.out.sz)
    clear hw9 HC HZ HS c0 c1 c2 z0 z1 z2
    simp only [List.setIfInBounds_toArray, List.set_cons_zero, List.set_cons_succ] at HC2
    obtain ⟨z0, z1, z2⟩ := HZ2.out.rules
    obtain ⟨c0, c1, c2⟩ := HC2.out.rules
    go_wp2_with fail
    refine bodyPost_ret (cs_out _ (G + 1) _ _ _ _ _ (((HZ2.out.put 0 _).put 1 _).put 2 _) rfl rfl) rfl ?_
    exact CsPost.of HG.out (((HB2.out.setCell (by have := HGW.out; simp only; omega) _).setCell (by have := HGW.out; simp only; omega) _).setCell (by have := HGW.out; simp only; omega) _)

set_option maxRecDepth 100000 in
set_option maxHeartbeats 4000000 in
theorem rcede_any (t : Ty) (A : Option Addr) (n c : Nat) (f g : Nat → Int) (h a : Int) (w : World) (hi : t.In w w.heap.size) (hn : n ≤ 9223372036854775807) (hp : Pairs w w.heap.size A n f g) :
    Calls Try.prog 36 #[.agg t.cells, .slice A n c, .int .i64 h, .int .i64 a] w (CsPost (Ex.ced (Ex.ixd t n f g h) a) w) := by
  have HTI := Lib.hid ty_info
  obtain ⟨X, hX⟩ : ∃ X, Ex.ced (Ex.ixd t n f g h) a = X := ⟨_, rfl⟩
  obtain ⟨⟨x, y, z⟩, hI⟩ : ∃ v, Ex.ixd t n f g h = v := ⟨_, rfl⟩
  have hbd := Ex.ixd_bound (t := t) (n := n) (f := f) (g := g) (h := h)
  rw [hI] at hbd hX
  simp only at hbd
  have HF : Hid ((z ≠ 0 → (0, 0, 0, z) = X) ∧ (z = 0 → ¬ (0 ≤ a ∧ a ≤ 17592186044416) → (0, 0, 0, 1) = X) ∧ (z = 0 → 0 ≤ a ∧ a ≤ 17592186044416 → (Ex.layer a x y, min a x, a - Ex.layer a x y - min a x, 0) = X)) := Lib.hid (by
    rw [← hX]
    unfold Ex.ced
    exact ⟨fun c => by rw [if_pos c], fun c d => by rw [if_neg (fun q => q c), if_pos d], fun c d => by rw [if_neg (fun q => q c), if_neg (fun q => q d)]⟩)
  have HBD := Lib.hid hbd
  have C1 : Hid (∀ W, t.In W W.heap.size → Pairs W W.heap.size A n f g → Calls Try.prog 34 #[.agg t.cells, .slice A n c, .int .i64 h] W (LyPost (x, y, z) W)) := Lib.hid fun W hW hV => by rw [← hI]; exact rindexed_any t A n c f g h W hW hn hV
  have HS := Lib.hid (Ty.Sits.new hi)
  have HP := Lib.hid hp
  rw [hI, hX]
  clear hX hI hi hp hbd
  go_enter Try.func36, Try.ntmps36
  go_upto_region 1 with (fail)
  obtain ⟨w1, hw1⟩ : ∃ w1, w.alloc (.cells t.cells 59) = w1 := ⟨_, rfl⟩; obtain ⟨G, hG⟩ : ∃ G, w.heap.size = G := ⟨_, rfl⟩; have HSZ : Hid (w1.heap.size = G + 1) := Lib.hid (by rw [← hw1, ← hG]; simp); rw [hw1, hG] at HS ⊢; clear hw1 hG
  have HZ := Lib.hid (Has.new w1 #[.int .i64 0, .int .i64 0, .int .i64 0] 66)
  replace HS := Lib.hid (HS.out.alloc (.cells #[.int .i64 0, .int .i64 0, .int .i64 0] 66))
  have hsz : w1.heap.size = G + 1 := by have := HSZ.out; omega
  obtain ⟨w2, hw2⟩ : ∃ W, w1.alloc (.cells #[.int .i64 0, .int .i64 0, .int .i64 0] 66) = W := ⟨_, rfl⟩
  rw [hw2, hsz] at HZ
  rw [hw2] at HS
  rw [hw2]
  clear hw2 hsz HSZ
  go_wp2_with ((refine wpList_load_has ?_ 59 (.tmp 4) ?_ G ?_ _ t.cells _ HS.out.box Try.underlying59 ?_ HTI.out ?_; rfl; rfl; rfl; rfl))
  refine (C1.out _ HS.out.inn ((HP.out.below HS.out.out).mono HS.out.le)).mono ?_
  rintro e w3 ⟨rfl, hb⟩
  replace HS := Lib.hid (HS.out.next hb)
  replace HZ := Lib.hid (HZ.out.below hb HZ.out.lt)
  clear hb C1
  simp only
  go_upto_region 2 with (fail)
  have HL : Hid (Has (w3.alloc (.cells #[.int .i64 x, .int .i64 y] 36)) w3.heap.size #[.int .i64 x, .int .i64 y] 36) := Lib.hid (Has.new _ _ _)
  replace HS := Lib.hid (HS.out.alloc (.cells #[.int .i64 x, .int .i64 y] 36))
  replace HZ := Lib.hid (HZ.out.alloc (.cells #[.int .i64 x, .int .i64 y] 36))
  obtain ⟨w4, hw4⟩ : ∃ W, w3.alloc (.cells #[.int .i64 x, .int .i64 y] 36) = W := ⟨_, rfl⟩
  obtain ⟨L, hLs⟩ : ∃ L, w3.heap.size = L := ⟨_, rfl⟩
  rw [hw4] at HS HZ HL
  rw [hLs] at HL
  rw [hw4, hLs]
  clear hw4 hLs
  obtain ⟨z0, z1, z2⟩ := HZ.out.rules
  by_cases hq : z = 0
  rotate_left
  · have HG : Hid ((0, 0, 0, z) = X) := Lib.hid (HF.out.1 hq)
    have hq1 : (z == 0) = false := by rw [beq_eq_false_iff_ne]; exact hq
    have hq2 : (z != 0) = true := by simp [hq]
    clear HF HBD hq
    go_wp2_with fail
    refine bodyPost_ret (rcs_out _ (G + 1) _ _ _ _ _ (((HZ.out.put 0 _).put 1 _).put 2 _) rfl rfl) rfl ?_
    exact CsPost.of HG.out (((HS.out.out.setCell (by rw [HS.out.sz]; simp) _).setCell (by rw [HS.out.sz]; simp) _).setCell (by rw [HS.out.sz]; simp) _)
  subst hq
  by_cases ha : 0 ≤ a ∧ a ≤ 17592186044416
  rotate_left
  · have HG : Hid ((0, 0, 0, 1) = X) := Lib.hid (HF.out.2.1 rfl ha)
    have hd : decide (0 ≤ a ∧ a ≤ 17592186044416) = false := by rw [decide_eq_false_iff_not]; exact ha
    clear HF HBD ha
    go_wp2_with ((go_at_call 41; refine (ramount_any _ _).mono ?_; rintro e w' ⟨rfl, rfl⟩))
    refine bodyPost_ret (rcs_out _ (G + 1) _ _ _ _ _ (((HZ.out.put 0 _).put 1 _).put 2 _) rfl rfl) rfl ?_
    exact CsPost.of HG.out (((HS.out.out.setCell (by rw [HS.out.sz]; simp) _).setCell (by rw [HS.out.sz]; simp) _).setCell (by rw [HS.out.sz]; simp) _)
  have HG : Hid ((Ex.layer a x y, min a x, a - Ex.layer a x y - min a x, 0) = X) := Lib.hid (HF.out.2.2 rfl ha)
  have hd : decide (0 ≤ a ∧ a ≤ 17592186044416) = true := by rw [decide_eq_true_iff]; exact ha
  have hbd : 0 ≤ x ∧ x ≤ 17592186044416 := by
    rcases HBD.out with h | h
    · exact absurd rfl h
    · exact ⟨h.1, h.2.1⟩
  have hly := Ex.layer_bound a x y
  obtain ⟨ly, hl⟩ : ∃ l, Ex.layer a x y = l := ⟨_, rfl⟩
  obtain ⟨mi, hm⟩ : ∃ l, min a x = l := ⟨_, rfl⟩
  have hmb : 0 ≤ mi ∧ mi ≤ 17592186044416 := by omega
  have HMI := Lib.hid hm
  rw [hl] at hly HG
  rw [hm] at HG
  obtain ⟨ly0, ly1⟩ := hly
  obtain ⟨mi0, mi1⟩ := hmb
  obtain ⟨a0, a1⟩ := ha
  obtain ⟨x0, x1⟩ := hbd
  have HLYR := Lib.hid hl
  clear HF HBD hl hm
  go_upto_region 6 with ((go_at_call 41; refine (ramount_any _ _).mono ?_; rintro e w' ⟨rfl, rfl⟩))
  have hLl := HL.out.lt
  obtain ⟨l0, l1⟩ : w4.cell? ⟨L, 0, none⟩ = some (.int .i64 x) ∧ w4.cell? ⟨L, 1, none⟩ = some (.int .i64 y) := ⟨HL.out.cell 0, HL.out.cell 1⟩
  go_cut [12] (fun p12 wx => ∃ P, p12 = .pointer (some ⟨P, 0, none⟩) ∧ Hid (Has wx P #[.int .i64 ly, .int .i64 mi, .int .i64 0] 66) ∧ Hid (Below w4.heap.size w4 wx) ∧ w4.heap.size ≤ P)
  case first =>
    clear HZ z0 z1 z2 HS HG
    go_region_held3 (fun w' => w'.cell? ⟨L, 0, none⟩ = some (.int .i64 x) ∧ w'.cell? ⟨L, 1, none⟩ = some (.int .i64 y)) (go_keep) (first
      | (go_at_call 15; refine (rlayer_any _ _ _ _).mono ?_; rintro e w' ⟨rfl, rfl⟩))
    all_goals
      go_wp2_with fail
      go_meet
      case rel =>
        refine ⟨_, rfl, Lib.hid ?_, Lib.hid ?_, ?_⟩
        · rw [HMI.out, HLYR.out]
          exact Has.new' _ _ _ _ (by simp)
        · exact below_drewN ((Below.refl _ _).alloc (Nat.le_refl _) _) 1
        · omega
  case rest =>
    obtain ⟨P, rfl, HC, HB, hP⟩ := hcut
    replace HS := Lib.hid (HS.out.next HB.out)
    replace HZ := Lib.hid (HZ.out.below HB.out HZ.out.lt)
    have hGP : G + 1 < P := by omega
    clear z0 z1 z2 l0 l1 hLl HL HB hP
    obtain ⟨z0, z1, z2⟩ := HZ.out.rules
    obtain ⟨c0, c1, c2⟩ := HC.out.rules
    have hne : G + 1 ≠ P := by omega
    go_upto_region 8 with (fail)
    have HC2 := Lib.hid (HC.out.put 2 (.int .i64 (a - ly - mi)))
    have HZ2 := Lib.hid (HZ.out.far (p := ⟨P, 2, none⟩) (by simp only; omega) (.int .i64 (a - ly - mi)))
    have HB2 : Hid (Below w.heap.size w (wc.setCell ⟨P, 2, none⟩ (.int .i64 (a - ly - mi)))) := Lib.hid (HS.out.out.setCell (by rw [HS.out.sz]; simp only; omega) _)
    obtain ⟨w9, hw9⟩ : ∃ W, wc.setCell ⟨P, 2, none⟩ (.int .i64 (a - ly - mi)) = W := ⟨_, rfl⟩
    rw [hw9] at HC2 HZ2 HB2 ⊢
    have HGW : Hid (w.heap.size ≤ G) := Lib.hid (Nat.le_of_eq HS.out.sz)
    clear hw9 HC HZ HS c0 c1 c2 z0 z1 z2
    simp only [List.setIfInBounds_toArray, List.set_cons_zero, List.set_cons_succ] at HC2
    obtain ⟨z0, z1, z2⟩ := HZ2.out.rules
    obtain ⟨c0, c1, c2⟩ := HC2.out.rules
    go_wp2_with fail
    refine bodyPost_ret (rcs_out _ (G + 1) _ _ _ _ _ (((HZ2.out.put 0 _).put 1 _).put 2 _) rfl rfl) rfl ?_
    exact CsPost.of HG.out (((HB2.out.setCell (by have := HGW.out; simp only; omega) _).setCell (by have := HGW.out; simp only; omega) _).setCell (by have := HGW.out; simp only; omega) _)
end Go.Proofs.Ytigoeaidlgofoaa
