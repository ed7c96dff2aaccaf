/- What an event uses: reinstate.use, events, and the running total. -/
import Derived.Test.YtlmgfcgakdanaaaCal
import Derived.Test.YtlmgfcgakdanaaaTrips
import Derived.Deep.QuietTactic
import Derived.BigQuiet
namespace Go.Proofs.Ytlmgfcgakdanaaa
open Go.RowKit
set_option linter.unusedVariables false

/-- a use, and no error -/
def UsePost (x : T3) (w : World) (e : Ending) (w' : World) : Prop := e = .returned (.tuple #[.agg #[.int .i64 x.a, .int .i64 x.b, .int .i64 x.c], .int .i64 0]) ∧ Below w.heap.size w w'
theorem UsePost.of {a b c : Int} {x : T3} {w w' : World} (h : T3.mk a b c = x) (hb : Below w.heap.size w w') : UsePost x w (.returned (.tuple #[.agg #[.int .i64 a, .int .i64 b, .int .i64 c], .int .i64 0])) w' := by
  subst h
  exact ⟨rfl, hb⟩

/-- the use of an event at hour h, before which u was recovered, and v with it -/
def Ty.use (t : Ty) (h u v : Int) : T3 := ⟨v - u, Rn.rein (t.nre * t.lim) u v, Rn.prem t.timed t.pf t.pt h (Rn.price t.prem t.lim t.fre t.nre v - Rn.price t.prem t.lim t.fre t.nre u)⟩

theorem use_out (W : World) (b : Nat) (x y z e : Int) (tmps : Array Value) (h : Has W b #[.int .i64 x, .int .i64 y, .int .i64 z] 47)
    (ht : tmps.getD 8 undef = .pointer (some ⟨b, 0, none⟩)) (h5 : tmps.getD 9 undef = .int .i64 e) :
    (results Try.f43 tmps).run Try.prog W = .ok (.tuple #[.agg #[.int .i64 x, .int .i64 y, .int .i64 z], .int .i64 e]) W := by
  have c0 := h.cell 0
  have c1 := h.cell 1
  have c2 := h.cell 2
  simp only [List.getElem?_toArray, List.getElem?_cons_zero, List.getElem?_cons_succ] at c0 c1 c2
  have ht' : tmps[8]?.getD undef = .pointer (some ⟨b, 0, none⟩) := by simpa using ht
  have h5' : tmps[9]?.getD undef = .int .i64 e := by simpa using h5
  simp [results, Try.results43, go_sem, ht', h5', c0, c1, c2]

theorem Ty.pr_fine {t : Ty} {u : Int} (hx : t.xerr = 0) (u0 : 0 ≤ u) (u1 : u ≤ 17592186044416) : t.pr u = (Rn.price t.prem t.lim t.fre t.nre u, 0) := by
  unfold Ty.pr
  rw [if_neg (fun h => h hx), if_neg (fun h => h ⟨u0, u1⟩)]

set_option maxRecDepth 100000 in
set_option maxHeartbeats 4000000 in
theorem use_any (t : Ty) (h u v : Int) (w : World) (hi : t.In w w.heap.size) (hx : t.xerr = 0) (h0 : 0 ≤ h) (h1 : h ≤ 876599) (u0 : 0 ≤ u) (uv : u ≤ v) (v1 : v ≤ 17592186044416) :
    Calls Try.prog 43 #[.agg t.cells, .int .i64 h, .int .i64 u, .int .i64 v] w (UsePost (t.use h u v) w) := by
  have HTI := Lib.hid ty_info
  have hfit := Ty.fit hx
  have hper := (Ty.fine (Ty.xfine hx).1).2.2.1
  obtain ⟨pf0, pfp, pt1⟩ := hper
  obtain ⟨X, hX⟩ : ∃ X, t.use h u v = X := ⟨_, rfl⟩
  have CP : Hid (∀ W, t.In W W.heap.size → Calls Try.prog 16 #[.agg t.cells, .int .i64 u] W (PairPost (Rn.price t.prem t.lim t.fre t.nre u, 0) W)) := Lib.hid fun W hW => by rw [← Ty.pr_fine hx u0 (by omega)]; exact price_any t u W hW
  have CQ : Hid (∀ W, t.In W W.heap.size → Calls Try.prog 16 #[.agg t.cells, .int .i64 v] W (PairPost (Rn.price t.prem t.lim t.fre t.nre v, 0) W)) := Lib.hid fun W hW => by rw [← Ty.pr_fine hx (by omega) v1]; exact price_any t v W hW
  have hpu := Rn.price_bound8 hfit u
  have hpv := Rn.price_bound8 hfit v
  have hpm := Rn.price_mono hfit uv
  have CE : Hid (∀ W, Calls Try.prog 66 #[.agg #[.int .i64 t.pf, .int .i64 t.pt], .int .i64 h] W (PairPost (Rn.gone t.pf t.pt h, Rn.days t.pf t.pt) W)) := Lib.hid fun W => elapsed_any t.pf t.pt h W pf0 pfp pt1 h0 h1
  have HU : Hid (T3.mk (v - u) (min v (t.nre * t.lim) - min u (t.nre * t.lim)) (Rn.prem t.timed t.pf t.pt h (Rn.price t.prem t.lim t.fre t.nre v - Rn.price t.prem t.lim t.fre t.nre u)) = X) := Lib.hid (by rw [← hX]; rfl)
  have HM := Lib.hid (Rn.prem_md (x := Rn.price t.prem t.lim t.fre t.nre v - Rn.price t.prem t.lim t.fre t.nre u) (h := h) pfp pf0 pt1 (by omega) (by omega)).1
  have hg := Rn.gone_bound (h := h) pfp
  have hdd := Rn.days_le pf0 pt1
  obtain ⟨pu, hpue⟩ : ∃ p, Rn.price t.prem t.lim t.fre t.nre u = p := ⟨_, rfl⟩
  obtain ⟨pv, hpve⟩ : ∃ p, Rn.price t.prem t.lim t.fre t.nre v = p := ⟨_, rfl⟩
  obtain ⟨ga, hga⟩ : ∃ p, Rn.gone t.pf t.pt h = p := ⟨_, rfl⟩
  obtain ⟨da, hda⟩ : ∃ p, Rn.days t.pf t.pt = p := ⟨_, rfl⟩
  rw [hpue] at CP hpu hpm HU HM
  rw [hpve] at CQ hpv hpm HU HM
  rw [hga] at CE HM hg
  rw [hda] at CE HM hg hdd
  obtain ⟨n, hn⟩ : ∃ n, t.nre = n := ⟨_, rfl⟩
  obtain ⟨L, hL⟩ : ∃ n, t.lim = n := ⟨_, rfl⟩
  obtain ⟨F, hF⟩ : ∃ F, (n : Int) * L = F := ⟨_, rfl⟩
  have hn8 := hfit.n8
  have hl0 := hfit.l0
  have hl1 := hfit.l1
  rw [hn] at HU hn8
  rw [hL] at HU hl0 hl1
  rw [hF] at HU
  have hF0 : 0 ≤ F := by rw [← hF]; exact Int.mul_nonneg (by omega) (by omega)
  have hF1 : F ≤ 8 * 1073741824 := by rw [← hF]; exact Int.mul_le_mul (by omega) hl1 (by omega) (by omega)
  have hwF : IntKind.i64.wrap ((n : Int) * L) = F := by rw [hF, IntKind.wrap_i64]; omega
  have HS := Lib.hid (Ty.Sits.new hi)
  have HNL : Hid (t.nre = n ∧ t.lim = L) := Lib.hid ⟨hn, hL⟩
  rw [hX]
  clear hX hi hx hfit hpue hpve hga hda hn hL hF
  go_enter Try.func43, Try.ntmps43
  go_upto_region 1 with (fail)
  obtain ⟨w1, hw1⟩ : ∃ w1, w.alloc (.cells t.cells 27) = w1 := ⟨_, rfl⟩; obtain ⟨G, hG⟩ : ∃ G, w.heap.size = G := ⟨_, rfl⟩; have HSZ : Hid (w1.heap.size = G + 1) := Lib.hid (by rw [← hw1, ← hG]; simp); rw [hw1, hG] at HS ⊢; clear hw1 hG
  have HZ := Lib.hid (Has.new w1 #[.int .i64 0, .int .i64 0, .int .i64 0] 47)
  replace HS := Lib.hid (HS.out.alloc (.cells #[.int .i64 0, .int .i64 0, .int .i64 0] 47))
  have hsz : w1.heap.size = G + 1 := by have := HSZ.out; omega
  obtain ⟨w2, hw2⟩ : ∃ W, w1.alloc (.cells #[.int .i64 0, .int .i64 0, .int .i64 0] 47) = W := ⟨_, rfl⟩
  rw [hw2, hsz] at HZ
  rw [hw2] at HS
  rw [hw2]
  clear hw2 hsz HSZ
  have x16 : w2.cell? ⟨G, 16, none⟩ = some (.slice t.Are t.nre t.cre) := HS.out.box.cell 16
  have x11 : w2.cell? ⟨G, 11, none⟩ = some (.int .i64 t.lim) := HS.out.box.cell 11
  rw [HNL.out.1] at x16
  rw [HNL.out.2] at x11
  go_upto_region 3 with (fail)
  have HP : Hid (Has (w2.alloc (.cells #[.int .i64 (v - u), .int .i64 (min v F - min u F), .int .i64 0] 47)) w2.heap.size #[.int .i64 (v - u), .int .i64 (min v F - min u F), .int .i64 0] 47) := Lib.hid (Has.new _ _ _)
  replace HS := Lib.hid (HS.out.alloc (.cells #[.int .i64 (v - u), .int .i64 (min v F - min u F), .int .i64 0] 47))
  have hZ2 := HZ.out.lt
  replace HZ := Lib.hid (HZ.out.alloc (.cells #[.int .i64 (v - u), .int .i64 (min v F - min u F), .int .i64 0] 47))
  obtain ⟨P, hP⟩ : ∃ P, w2.heap.size = P := ⟨_, rfl⟩
  obtain ⟨w3, hw3⟩ : ∃ W, w2.alloc (.cells #[.int .i64 (v - u), .int .i64 (min v F - min u F), .int .i64 0] 47) = W := ⟨_, rfl⟩
  rw [hP] at HP hZ2
  rw [hw3] at HP HS HZ
  rw [hw3, hP]
  clear hw3 hP x16 x11 hwF
  go_wp2_with ((refine wpList_load_has ?_ 27 (.tmp 4) ?_ G ?_ _ t.cells _ HS.out.box Try.underlying27 ?_ HTI.out ?_; rfl; rfl; rfl; rfl))
  refine (CP.out _ HS.out.inn).mono ?_
  rintro e w4 ⟨rfl, hb⟩
  replace HS := Lib.hid (HS.out.next hb)
  replace HZ := Lib.hid (HZ.out.below hb HZ.out.lt)
  replace HP := Lib.hid (HP.out.below hb HP.out.lt)
  clear hb CP
  try simp only
  go_wp2_with ((refine wpList_load_has ?_ 27 (.tmp 4) ?_ G ?_ _ t.cells _ HS.out.box Try.underlying27 ?_ HTI.out ?_; rfl; rfl; rfl; rfl))
  refine (CQ.out _ HS.out.inn).mono ?_
  rintro e w5 ⟨rfl, hb⟩
  replace HS := Lib.hid (HS.out.next hb)
  replace HZ := Lib.hid (HZ.out.below hb HZ.out.lt)
  replace HP := Lib.hid (HP.out.below hb HP.out.lt)
  clear hb CQ
  try simp only
  obtain ⟨p0, p1, p2⟩ := HP.out.rules
  go_upto_region 10 with (fail)
  replace HP := Lib.hid (HP.out.put 2 (.int .i64 (pv - pu)))
  replace HZ := Lib.hid (HZ.out.far (p := ⟨P, 2, none⟩) (by simp only; omega) (.int .i64 (pv - pu)))
  have hGP : G + 1 < P := hZ2
  replace HS : Hid (t.Sits w G (w5.setCell ⟨P, 2, none⟩ (.int .i64 (pv - pu)))) := Lib.hid (HS.out.up ((Below.refl (G + 1) w5).setCell (p := ⟨P, 2, none⟩) (by simp only; omega) (.int .i64 (pv - pu))))
  obtain ⟨w6, hw6⟩ : ∃ W, w5.setCell ⟨P, 2, none⟩ (.int .i64 (pv - pu)) = W := ⟨_, rfl⟩
  rw [hw6] at HP HZ HS ⊢
  clear hw6 p0 p1 p2 hZ2
  simp only [List.setIfInBounds_toArray, List.set_cons_zero, List.set_cons_succ] at HP
  obtain ⟨p0, p1, p2⟩ := HP.out.rules
  obtain ⟨z0, z1, z2⟩ := HZ.out.rules
  have x17 : w6.cell? ⟨G, 17, none⟩ = some (.bool t.timed) := HS.out.box.cell 17
  have x2 : w6.cell? ⟨G, 2, none⟩ = some (.int .i64 t.pf) := HS.out.box.cell 2
  have x3 : w6.cell? ⟨G, 3, none⟩ = some (.int .i64 t.pt) := HS.out.box.cell 3
  obtain ⟨tm, htm⟩ : ∃ b, t.timed = b := ⟨_, rfl⟩
  rw [htm] at x17 HU
  clear htm
  cases tm with
  | false =>
    have HU2 : Hid (T3.mk (v - u) (min v F - min u F) (pv - pu) = X) := Lib.hid (by rw [← HU.out]; rfl)
    clear HU HM CE x2 x3
    go_wp2_with fail
    refine bodyPost_ret (use_out _ (G + 1) _ _ _ _ _ (((HZ.out.put 0 _).put 1 _).put 2 _) rfl rfl) rfl ?_
    exact UsePost.of HU2.out (((HS.out.out.setCell (by rw [HS.out.sz]; simp) _).setCell (by rw [HS.out.sz]; simp) _).setCell (by rw [HS.out.sz]; simp) _)
  | true =>
    go_wp2_with fail
    refine (CE.out _).mono ?_
    rintro e w7 ⟨rfl, hb⟩
    replace HS := Lib.hid (HS.out.next hb)
    replace HZ := Lib.hid (HZ.out.below hb HZ.out.lt)
    replace HP := Lib.hid (HP.out.below hb HP.out.lt)
    clear hb CE x2 x3 x17 p0 p1 p2 z0 z1 z2
    try simp only
    obtain ⟨p0, p1, p2⟩ := HP.out.rules
    obtain ⟨z0, z1, z2⟩ := HZ.out.rules
    obtain ⟨q, hq⟩ : ∃ q, Rn.prem true t.pf t.pt h (pv - pu) = q := ⟨_, rfl⟩
    rw [hq] at HM HU
    have C4 : Hid (∀ W, Calls Try.prog 36 #[.int .i64 (pv - pu), .int .i64 (da - ga), .int .i64 da, .int .i64 4] W fun e w' => e = .returned (.tuple #[.int .i64 q, .int .i64 0]) ∧ ∃ n, w' = W.drewN n) := Lib.hid fun W => by
      have := muldiv_any (pv - pu) (da - ga) da 4 W
      rw [HM.out] at this
      exact this
    clear hq HM
    go_wp2_with fail
    refine (C4.out _).mono ?_
    rintro e w8 ⟨rfl, nq, rfl⟩
    replace HP := Lib.hid ((HP.out.drewN nq).put 2 (.int .i64 q))
    replace HZ := Lib.hid ((HZ.out.drewN nq).far (p := ⟨P, 2, none⟩) (by simp only; omega) (.int .i64 q))
    replace HS : Hid (t.Sits w G ((w7.drewN nq).setCell ⟨P, 2, none⟩ (.int .i64 q))) := Lib.hid ((HS.out.drewN nq).up ((Below.refl (G + 1) _).setCell (p := ⟨P, 2, none⟩) (by simp only; omega) (.int .i64 q)))
    try simp only
    go_upto_region 13 with (fail)
    obtain ⟨w9, hw9⟩ : ∃ W, (w7.drewN nq).setCell ⟨P, 2, none⟩ (.int .i64 q) = W := ⟨_, rfl⟩
    rw [hw9] at HP HZ HS ⊢
    clear hw9 p0 p1 p2 z0 z1 z2
    simp only [List.setIfInBounds_toArray, List.set_cons_zero, List.set_cons_succ] at HP
    obtain ⟨p0, p1, p2⟩ := HP.out.rules
    obtain ⟨z0, z1, z2⟩ := HZ.out.rules
    go_wp2_with fail
    refine bodyPost_ret (use_out _ (G + 1) _ _ _ _ _ (((HZ.out.put 0 _).put 1 _).put 2 _) rfl rfl) rfl ?_
    exact UsePost.of HU.out (((HS.out.out.setCell (by rw [HS.out.sz]; simp) _).setCell (by rw [HS.out.sz]; simp) _).setCell (by rw [HS.out.sz]; simp) _)

set_option maxHeartbeats 1000000 in
theorem events_any (Ah : Option Addr) (nh ch : Nat) (h : Nat → Int) (A : Option Addr) (n c : Nat) (l : Nat → Int) (w : World) (hnh : nh ≤ 9223372036854775807) (hn : n ≤ 9223372036854775807) (hh : Nums w w.heap.size Ah nh h) (hl : Nums w w.heap.size A n l) :
    Calls Try.prog 40 #[.slice Ah nh ch, .slice A n c] w fun e w' => e = .returned (.int .i64 (Rn.eerr nh h n l)) ∧ w = w' := by
  obtain ⟨X, hX⟩ : ∃ X, Rn.eerr nh h n l = X := ⟨_, rfl⟩
  obtain ⟨S1, hS1⟩ : ∃ S, scan (Rn.ec h l) (n - 0) 0 = S := ⟨_, rfl⟩
  have HF : Hid ((64 < n ∨ nh ≠ n → 4 = X) ∧ (n ≤ 64 → nh = n → (S1 ≠ 0 → 1 = X) ∧ (S1 = 0 → (17592186044416 < Ex.psum l n → 3 = X) ∧ (¬ 17592186044416 < Ex.psum l n → 0 = X)))) := Lib.hid (by
    rw [← hX, ← hS1, Nat.sub_zero]
    unfold Rn.eerr
    refine ⟨fun c => by rw [if_pos c], fun c d => ⟨fun e => ?_, fun e => ⟨fun f => ?_, fun f => ?_⟩⟩⟩
    · rw [if_neg (by omega), if_pos e]
    · rw [if_neg (by omega), if_neg (fun q => q e), if_pos f]
    · rw [if_neg (by omega), if_neg (fun q => q e), if_neg f])
  have HS1 := Lib.hid hS1
  have HH := Lib.hid hh
  have HL := Lib.hid hl
  rw [hX]
  clear hX hS1 hh hl
  by_cases h64 : 64 < n
  · have HG : Hid (4 = X) := Lib.hid (HF.out.1 (.inl h64))
    clear HF
    go_enter Try.func40, Try.ntmps40
    go_wp2_with fail
    go_ret
    exact ⟨ret_i64 HG.out, rfl⟩
  have n64 : n ≤ 64 := by omega
  have hd64 : decide ((64 : Int) < n) = false := by rw [decide_eq_false_iff_not]; omega
  by_cases hne : nh = n
  rotate_left
  · have HG : Hid (4 = X) := Lib.hid (HF.out.1 (.inr hne))
    have hd : ((nh : Int) != n) = true := by simp; omega
    have hd2 : ((nh : Int) == n) = false := by rw [beq_eq_false_iff_ne]; omega
    clear HF hne
    go_enter Try.func40, Try.ntmps40
    go_wp2_with fail
    go_ret
    exact ⟨ret_i64 HG.out, rfl⟩
  subst hne
  have HF2 := Lib.hid (HF.out.2 n64 rfl)
  clear HF h64
  go_enter Try.func40, Try.ntmps40
  go_wp2_with fail
  go_loop [5, 6, 7, 20] (fun s _ _ i => ∃ k : Nat, k ≤ nh ∧ i = .int .i64 k ∧ s = .int .i64 (Ex.psum l k) ∧ (0 ≤ Ex.psum l k ∧ Ex.psum l k ≤ 17592186044416 * k) ∧ Hid (scan (Rn.ec h l) (nh - k) k = S1)) (fun _ _ _ i => nh - (intOf i).toNat)
  case atStart => exact ⟨0, Nat.zero_le _, rfl, rfl, by simp [Ex.psum], HS1⟩
  case round =>
    clear HS1 hd64
    obtain ⟨k, hk, rfl, rfl, hps, HS⟩ := hrel
    have HP1 : Hid (Ex.psum l (k + 1) = Ex.psum l k + l k) := Lib.hid rfl
    obtain ⟨p, hpe⟩ : ∃ p, Ex.psum l k = p := ⟨_, rfl⟩
    rw [hpe] at hps HP1 ⊢
    obtain ⟨p0, p1⟩ := hps
    by_cases hlt : k < nh
    · obtain ⟨b, o, hA, hbl, hc0⟩ := HL.out.get hlt
      obtain ⟨b2, o2, hA2, hbl2, hc2⟩ := HH.out.get hlt
      obtain ⟨x, hxe⟩ : ∃ x, l k = x := ⟨_, rfl⟩
      obtain ⟨y, hye⟩ : ∃ x, h k = x := ⟨_, rfl⟩
      have HC : Hid ((Ex.hourP y ∧ Ex.amt x → Rn.ec h l k = 0) ∧ (¬ (Ex.hourP y ∧ Ex.amt x) → Rn.ec h l k = 1)) := Lib.hid (by
        rw [← hxe, ← hye]
        exact ⟨Rn.ec_fine, Rn.ec_bad⟩)
      rw [hxe] at hc0 HP1
      rw [hye] at hc2
      have hk0 : (0 : Int) ≤ k := by omega
      have hk1 : (k : Int) < nh := by omega
      subst hA hA2
      clear hpe hxe hye
      by_cases hok : Ex.hourP y ∧ Ex.amt x
      · have HG : Hid (scan (Rn.ec h l) (nh - (k + 1)) (k + 1) = S1) := Lib.hid (by rw [← scan_go _ hlt (HC.out.1 hok)]; exact HS.out)
        obtain ⟨⟨y0, y1⟩, x0, x1⟩ := hok
        have hv : Am.validB x = true := (Am.validB_iff _).2 ⟨by omega, by omega⟩
        have hy0 : decide (y < 0) = false := by rw [decide_eq_false_iff_not]; omega
        have hy1 : decide (876599 < y) = false := by rw [decide_eq_false_iff_not]; omega
        have hx0 : decide (x < 0) = false := by rw [decide_eq_false_iff_not]; omega
        clear HC HS HF2
        go_wp2_with (first | (go_at_call 34; refine (valid_any _ _).mono ?_; rintro e w' ⟨rfl, rfl⟩))
        go_round
        case rel => exact ⟨k + 1, by omega, by go_num, by rw [HP1.out], by rw [HP1.out]; omega, HG⟩
        case measure => simp [intOf]; omega
      · have HG : Hid (1 = X) := Lib.hid (by
          have e1 := HC.out.2 hok
          have e2 : S1 = 1 := by rw [← HS.out, scan_stop _ hlt (by omega), e1]
          exact HF2.out.1 (by omega))
        have hw : y < 0 ∨ 876599 < y ∨ (0 ≤ y ∧ y ≤ 876599 ∧ x < 0) ∨ (0 ≤ y ∧ y ≤ 876599 ∧ 0 ≤ x ∧ 17592186044416 < x) := by
          unfold Ex.hourP Ex.amt at hok
          omega
        clear HC HS HF2 hok HP1
        rcases hw with hw | hw | ⟨hw1, hw2, hw3⟩ | ⟨hw1, hw2, hw3, hw4⟩
        · go_wp2_with (first | (go_at_call 34; refine (valid_any _ _).mono ?_; rintro e w' ⟨rfl, rfl⟩))
          go_ret
          exact ⟨ret_i64 HG.out, rfl⟩
        · have hy0 : decide (y < 0) = false := by rw [decide_eq_false_iff_not]; omega
          go_wp2_with (first | (go_at_call 34; refine (valid_any _ _).mono ?_; rintro e w' ⟨rfl, rfl⟩))
          go_ret
          exact ⟨ret_i64 HG.out, rfl⟩
        · have hy0 : decide (y < 0) = false := by rw [decide_eq_false_iff_not]; omega
          have hy1 : decide (876599 < y) = false := by rw [decide_eq_false_iff_not]; omega
          go_wp2_with (first | (go_at_call 34; refine (valid_any _ _).mono ?_; rintro e w' ⟨rfl, rfl⟩))
          go_ret
          exact ⟨ret_i64 HG.out, rfl⟩
        · have hy0 : decide (y < 0) = false := by rw [decide_eq_false_iff_not]; omega
          have hy1 : decide (876599 < y) = false := by rw [decide_eq_false_iff_not]; omega
          have hx0 : decide (x < 0) = false := by rw [decide_eq_false_iff_not]; omega
          have hv : Am.validB x = false := (Am.validB_false _).2 (by omega)
          go_wp2_with (first | (go_at_call 34; refine (valid_any _ _).mono ?_; rintro e w' ⟨rfl, rfl⟩))
          go_ret
          exact ⟨ret_i64 HG.out, rfl⟩
    · have hkn : nh = k := by omega
      have e2 : S1 = 0 := by rw [← HS.out, hkn, Nat.sub_self]; rfl
      have HG1 := Lib.hid (HF2.out.2 e2)
      have hd : decide ((k : Int) < nh) = false := by rw [decide_eq_false_iff_not]; omega
      have HPE : Hid (Ex.psum l nh = p) := Lib.hid (by rw [hkn]; exact hpe)
      clear HF2 HS HP1 hpe e2
      by_cases ho : 17592186044416 < p
      · have HG : Hid (3 = X) := Lib.hid (HG1.out.1 (by rw [HPE.out]; exact ho))
        have hv : Am.validB p = false := (Am.validB_false _).2 (by omega)
        clear HG1 HPE hkn
        go_wp2_with (first | (go_at_call 34; refine (valid_any _ _).mono ?_; rintro e w' ⟨rfl, rfl⟩))
        go_ret
        exact ⟨ret_i64 HG.out, rfl⟩
      · have HG : Hid (0 = X) := Lib.hid (HG1.out.2 (by have := HPE.out; omega))
        have hv : Am.validB p = true := (Am.validB_iff _).2 ⟨by omega, by omega⟩
        clear HG1 HPE hkn
        go_wp2_with (first | (go_at_call 34; refine (valid_any _ _).mono ?_; rintro e w' ⟨rfl, rfl⟩))
        go_ret
        exact ⟨ret_i64 HG.out, rfl⟩

set_option maxHeartbeats 400000 in
/-- the closure of running: it adds to the total in block b -/
theorem running_step (b : Nat) (s x : Int) (w : World) (h : Has w b #[.int .i64 s] 3) (s0 : 0 ≤ s) (s1 : s ≤ 17592186044416) (x0 : 0 ≤ x) (x1 : x ≤ 17592186044416) :
    Calls Try.prog 65 #[.int .i64 x, .pointer (some ⟨b, 0, none⟩)] w fun e w' => e = .returned (.tuple #[.int .i64 s, .int .i64 (s + x)]) ∧ ∃ n, w' = (w.setCell ⟨b, 0, none⟩ (.int .i64 (s + x))).drewN n := by
  have c0 : w.cell? ⟨b, 0, none⟩ = some (.int .i64 s) := h.cell 0
  have c1 := h.free 0
  have c2 := h.lt
  clear h
  go_enter Try.func65, Try.ntmps65
  go_wp2
  go_quiet (fail)
  go_wp2
  go_ret2
  exact ⟨rfl, _, rfl⟩
set_option maxHeartbeats 400000 in
theorem running_any (w : World) : Calls Try.prog 42 #[] w fun e w' => e = .returned (.func (.func 65) #[] #[.pointer (some ⟨w.heap.size, 0, none⟩)]) ∧ w.alloc (.cells #[.int .i64 0] 3) = w' := by
  go_enter Try.func42, Try.ntmps42
  go_wp2
  go_ret
  exact ⟨rfl, rfl⟩
end Go.Proofs.Ytlmgfcgakdanaaa
