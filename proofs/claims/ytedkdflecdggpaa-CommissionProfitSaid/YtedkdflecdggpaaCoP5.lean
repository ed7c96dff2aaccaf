/- The reference's Profit. -/
import Derived.Test.YtedkdflecdggpaaCoP4
import Derived.Test.YtedkdflecdggpaaCoR
namespace Go.Proofs.Ytedkdflecdggpaa
open Go.RowKit
set_option linter.unusedVariables false

/-- the terms, and the first k years, are fine -/
def Co.okB (p l : Nat → Int) (x rt cr : Int) : Nat → Bool
  | 0 => decide (Co.rateP x ∧ Co.rateP rt ∧ Co.carryP cr)
  | k + 1 => Co.okB p l x rt cr k && decide (Co.yearP p l k)
theorem Co.okB_yes {p l : Nat → Int} {x rt cr : Int} : ∀ k, Co.okB p l x rt cr k = true → (Co.rateP x ∧ Co.rateP rt ∧ Co.carryP cr) ∧ ∀ j, j < k → Co.yearP p l j := fun k => by
  induction k with
  | zero => intro h; exact ⟨of_decide_eq_true h, fun j hj => absurd hj (by omega)⟩
  | succ k ih =>
    intro h
    rw [Co.okB, Bool.and_eq_true] at h
    obtain ⟨h1, h2⟩ := ih h.1
    refine ⟨h1, fun j hj => ?_⟩
    by_cases e : j = k
    · rw [e]; exact of_decide_eq_true h.2
    · exact h2 j (by omega)
theorem Co.okB_no {p l : Nat → Int} {x rt cr : Int} : ∀ k, Co.okB p l x rt cr k = false → ¬ ((Co.rateP x ∧ Co.rateP rt ∧ Co.carryP cr) ∧ ∀ j, j < k → Co.yearP p l j) := fun k => by
  induction k with
  | zero => intro h c; exact of_decide_eq_false h c.1
  | succ k ih =>
    intro h c
    rw [Co.okB, Bool.and_eq_false_iff] at h
    rcases h with h | h
    · exact ih h ⟨c.1, fun j hj => c.2 j (by omega)⟩
    · exact of_decide_eq_false h (c.2 k (by omega))
theorem Co.scan_yc (p l : Nat → Int) (k i : Nat) : scan (Co.yc p l) k i = 0 ∨ scan (Co.yc p l) k i = 1 := by
  induction k generalizing i with
  | zero => exact .inl rfl
  | succ k ih =>
    rw [scan]
    split
    · exact ih _
    · rename_i h
      by_cases c : Co.yearP p l i
      · rw [Co.yc_fine c] at h; omega
      · exact .inr (Co.yc_bad c)
theorem Co.perr_ok {n : Nat} {p l : Nat → Int} {x rt cr : Int} (hn : n ≤ 20) (h : Co.okB p l x rt cr n = true) : Co.perr n p l x rt cr = 0 := by
  obtain ⟨h1, h2⟩ := Co.okB_yes n h
  rw [Co.perr, if_neg (by omega), if_neg (fun c => c h1)]
  exact scan_fine _ _ _ fun j _ hj => Co.yc_fine (h2 j (by omega))
theorem Co.perr_no {n : Nat} {p l : Nat → Int} {x rt cr : Int} (hn : n ≤ 20) (h : Co.okB p l x rt cr n = false) : Co.perr n p l x rt cr = 1 := by
  rw [Co.perr, if_neg (by omega)]
  by_cases h1 : Co.rateP x ∧ Co.rateP rt ∧ Co.carryP cr
  · rw [if_neg (fun c => c h1)]
    rcases Co.scan_yc p l n 0 with h0 | h0
    · exfalso
      refine Co.okB_no n h ⟨h1, fun j hj => ?_⟩
      have := scan_zero _ _ _ h0 j (by omega) (by omega)
      by_cases c : Co.yearP p l j
      · exact c
      · rw [Co.yc_bad c] at this; omega
    · exact h0
  · rw [if_pos h1]

/-- what holds while the reference reckons a year: the deficits in block G, the accounts in R, this account in block P -/
structure RMid (w0 w : World) (base G n : Nat) (R : Value) (i : Nat) (F : Nat → Nat → Int) (P : Nat) (ac : Array Value) (D : Nat → Int) : Prop where
  row : Row w G n 3 fun j => .int .i64 (D j)
  own : w.ownsRow base 42 4 R i (quadL i F)
  acc : Has w P ac 42
  bel : Below w0.heap.size w0 w
  lg : w0.heap.size ≤ G
  gb : G < base
  bP : base ≤ P
  fr : ∀ k, R.ownBlock = some k → k < P
section
variable {w0 w w' : World} {base G n : Nat} {R : Value} {i : Nat} {F : Nat → Nat → Int} {P : Nat} {ac : Array Value} {D D' : Nat → Int}
theorem RMid.step (h : RMid w0 w base G n R i F P ac D) (hb : Below w.heap.size w w') : RMid w0 w' base G n R i F P ac D :=
  ⟨h.row.below hb h.row.lt, own_below h.own hb, h.acc.below hb h.acc.lt, h.bel.trans (hb.mono h.bel.size), h.lg, h.gb, h.bP, h.fr⟩
theorem RMid.drewN (h : RMid w0 w base G n R i F P ac D) (k : Nat) : RMid w0 (w.drewN k) base G n R i F P ac D := h.step (below_drewN (Below.refl _ _) k)
theorem RMid.drew (h : RMid w0 w base G n R i F P ac D) : RMid w0 w.drew base G n R i F P ac D := h.drewN 1
theorem RMid.putAcc (h : RMid w0 w base G n R i F P ac D) (j : Nat) (u : Value) : RMid w0 (w.setCell ⟨P, j, none⟩ u) base G n R i F P (ac.setIfInBounds j u) D := by
  have h1 := h.gb
  have h2 := h.bP
  have h3 := h.lg
  exact ⟨h.row.far (by simp only; omega) _, own_leaves h.own (Leaves.one _ _ _ _) (fun k hk e => by have := h.fr k hk; omega), h.acc.put j u, h.bel.setCell (by simp only; omega) _, h.lg, h.gb, h.bP, h.fr⟩
theorem RMid.putRow (h : RMid w0 w base G n R i F P ac D) (j : Nat) (z : Int) : RMid w0 (w.setCell ⟨G, j, none⟩ (.int .i64 z)) base G n R i F P ac (fun t => if t = j then z else D t) := by
  have h1 := h.gb
  have h2 := h.bP
  have h3 := h.lg
  exact ⟨(h.row.put j _).congr fun t _ => by split <;> rfl, own_leaves h.own (Leaves.one _ _ _ _) (fun k hk e => by have := (own_lt h.own hk).2; omega), h.acc.far (by simp only; omega) _, h.bel.setCell (by simp only; omega) _, h.lg, h.gb, h.bP, h.fr⟩
theorem RMid.congr (h : RMid w0 w base G n R i F P ac D) (e : ∀ j, j < n → D j = D' j) : RMid w0 w base G n R i F P ac D' :=
  ⟨h.row.congr fun j hj => by rw [e j hj], h.own, h.acc, h.bel, h.lg, h.gb, h.bP, h.fr⟩
end

/-- what holds between two years -/
structure RCon (w0 w : World) (base G n : Nat) (R : Value) (i : Nat) (F : Nat → Nat → Int) (D : Nat → Int) : Prop where
  row : Row w G n 3 fun j => .int .i64 (D j)
  own : w.ownsRow base 42 4 R i (quadL i F)
  bel : Below w0.heap.size w0 w
  lg : w0.heap.size ≤ G
  gb : G < base
  bs : base ≤ w.heap.size
section
variable {w0 w w' : World} {base G n : Nat} {R : Value} {i : Nat} {F : Nat → Nat → Int} {P : Nat} {ac : Array Value} {D D' : Nat → Int}
theorem RCon.step (h : RCon w0 w base G n R i F D) (hb : Below w.heap.size w w') : RCon w0 w' base G n R i F D :=
  ⟨h.row.below hb h.row.lt, own_below h.own hb, h.bel.trans (hb.mono h.bel.size), h.lg, h.gb, Nat.le_trans h.bs hb.size⟩
theorem RCon.drewN (h : RCon w0 w base G n R i F D) (k : Nat) : RCon w0 (w.drewN k) base G n R i F D := h.step (below_drewN (Below.refl _ _) k)
theorem RCon.mid (h : RCon w0 w base G n R i F D) (hb : Below w.heap.size w w') (ha : Has w' w.heap.size ac 42) : RMid w0 w' base G n R i F w.heap.size ac D :=
  have h' := h.step hb
  ⟨h'.row, h'.own, ha, h'.bel, h'.lg, h'.gb, h.bs, fun k hk => (own_lt h.own hk).1⟩
theorem RMid.app {R' : Value} {w4 : World} {o : Obj} (h : RMid w0 w base G n R i F P ac D) (h1 : w4.ownsRow base 42 4 R' (i + 1) (quadL (i + 1) F)) (hg : (w.alloc o).grownBy w4 R.ownBlock) :
    RCon w0 w4 base G n R' (i + 1) F D := by
  have g1 := h.gb
  have g2 := h.lg
  have g3 := h.bP
  have g4 := h.acc.lt
  have hL : Leaves (fun k => R.ownBlock = some k) w w4 := ((Leaves.refl _ w).alloc o).grown hg fun k hk => .inl hk
  have hb : Below base w w4 := hL.below (fun k hk => (own_lt h.own hk).2) (by omega)
  exact ⟨h.row.below hb h.gb, h1, h.bel.trans (hb.mono (by omega)), h.lg, h.gb, by have := hb.size; omega⟩
end

set_option maxRecDepth 100000 in
set_option maxHeartbeats 8000000 in
theorem rprofit_any (A : Option Addr) (n ca : Nat) (p l : Nat → Int) (x rt cr : Int) (w : World) (hn : n ≤ 9223372036854775807) (hp : Pairs w w.heap.size A n p l) :
    Calls Try.prog 19 #[.slice A n ca, .int .i64 x, .int .i64 rt, .int .i64 cr] w (ProfPost (Co.perr n p l x rt cr) n (Co.acct p l x rt cr.toNat) w) := by
  have hn0 : (0 : Int) ≤ n := by omega
  by_cases h20 : 20 < n
  · rw [show Co.perr n p l x rt cr = 4 from if_pos h20]
    have h1 : (20 : Int) < n := by omega
    clear hp
    go_enter Try.func19, Try.ntmps19
    go_wp2
    go_ret2
    exact ProfPost.fail (by omega) (by (repeat' (first | (with_reducible exact Below.refl _ _) | (with_reducible refine Below.setCell ?_ ?_ _) | (with_reducible refine below_drewN ?_ _) | (with_reducible refine Below.drew ?_) | (with_reducible refine Below.alloc ?_ ?_ _))) <;> (first | omega | (simp <;> omega)))
  have h1 : (n : Int) ≤ 20 := by omega
  have HP := Lib.hid hp
  obtain ⟨b0, hb0⟩ : ∃ b, Co.okB p l x rt cr 0 = b := ⟨_, rfl⟩
  have HB0 := Lib.hid hb0
  have HD0 : Hid (decide (Co.rateP x ∧ Co.rateP rt ∧ Co.carryP cr) = b0) := Lib.hid hb0
  clear hp hb0 h20
  go_enter Try.func19, Try.ntmps19
  go_upto_region 3 with (fail)
  go_cut [10] (fun ok wx => ok = .bool b0 ∧ w = wx)
  case first =>
    go_wp2
    all_goals
      go_meet
      case rel =>
        skip
        exact ⟨by rw [← HD0.out]; congr 1; rw [Bool.eq_iff_iff]; unfold Co.rateP Co.carryP; simp; omega, rfl⟩
  case rest =>
    obtain ⟨rfl, rfl⟩ := hcut
    go_wp2_with fail
    go_loop [10, 11] (fun ok i => ∃ k : Nat, k ≤ n ∧ i = .int .i64 k ∧ ok = .bool (Co.okB p l x rt cr k)) (fun _ i => n - (intOf i).toNat)
    case atStart => exact ⟨0, Nat.zero_le _, rfl, by rw [HB0.out]⟩
    case round =>
      clear HB0 HD0
      obtain ⟨k, hk, rfl, rfl⟩ := hrel
      by_cases hlt : k < n
      · obtain ⟨b, o, rfl, had, hc0, hc1⟩ := HP.out.get hlt
        have hk0 : (0 : Int) ≤ k := by omega
        have hk1 : (k : Int) < n := by omega
        obtain ⟨B, hB⟩ : ∃ B, Co.okB p l x rt cr k = B := ⟨_, rfl⟩
        have HBK : Hid (Co.okB p l x rt cr (k + 1) = (B && decide (Co.yearP p l k))) := Lib.hid (by rw [Co.okB, hB])
        rw [hB]
        clear hB
        cases B with
        | false =>
          rw [Bool.false_and] at HBK
          go_wp2_with fail
          go_round
          case rel => exact ⟨k + 1, by omega, by go_num, by rw [HBK.out]⟩
          case measure => simp [intOf]; omega
        | true =>
          rw [Bool.true_and] at HBK
          by_cases hh : Co.lossP (p k)
          · have HHH := Lib.hid hh
            by_cases hi : Co.lossP (l k)
            · have HII := Lib.hid hi
              have HG : Hid (Co.okB p l x rt cr (k + 1) = true) := Lib.hid (by rw [HBK.out]; exact decide_eq_true ⟨hh, hi⟩)
              clear HBK hh hi
              go_wp2_with fail
              refine (ryes HHH.out _).mono ?_
              rintro e w' ⟨rfl, rfl⟩
              go_wp2_with fail
              refine (ryes HII.out _).mono ?_
              rintro e w' ⟨rfl, rfl⟩
              go_wp2_with fail
              go_round
              case rel => exact ⟨k + 1, by omega, by go_num, by rw [HG.out]⟩
              case measure => simp [intOf]; omega
            · have HII := Lib.hid hi
              have HG : Hid (Co.okB p l x rt cr (k + 1) = false) := Lib.hid (by rw [HBK.out]; exact decide_eq_false fun c => hi c.2)
              clear HBK hh hi
              go_wp2_with fail
              refine (ryes HHH.out _).mono ?_
              rintro e w' ⟨rfl, rfl⟩
              go_wp2_with fail
              refine (rno HII.out _).mono ?_
              rintro e w' ⟨rfl, rfl⟩
              go_wp2_with fail
              go_round
              case rel => exact ⟨k + 1, by omega, by go_num, by rw [HG.out]⟩
              case measure => simp [intOf]; omega
          · have HHH := Lib.hid hh
            have HG : Hid (Co.okB p l x rt cr (k + 1) = false) := Lib.hid (by rw [HBK.out]; exact decide_eq_false fun c => hh c.1)
            clear HBK hh
            go_wp2_with fail
            refine (rno HHH.out _).mono ?_
            rintro e w' ⟨rfl, rfl⟩
            go_wp2_with fail
            go_round
            case rel => exact ⟨k + 1, by omega, by go_num, by rw [HG.out]⟩
            case measure => simp [intOf]; omega
      · obtain rfl : k = n := by omega
        obtain ⟨B, hB⟩ : ∃ B, Co.okB p l x rt cr k = B := ⟨_, rfl⟩
        have HB := Lib.hid hB
        rw [hB]
        clear hB
        cases B with
        | false =>
          have HE := Lib.hid (Co.perr_no (by omega) HB.out)
          go_wp2_with fail
          go_ret2
          exact by rw [HE.out]; exact ProfPost.fail (by omega) (Below.refl _ _)
        | true =>
          have HE := Lib.hid (Co.perr_ok (by omega) HB.out)
          have hf := Co.okB_yes k HB.out
          have HY := Lib.hid hf.2
          obtain ⟨c, rfl⟩ : ∃ c : Nat, cr = c := ⟨cr.toNat, by have := hf.1.2.2.1; omega⟩
          have hx := hf.1.1
          have hrt := hf.1.2.1
          have hc20 : (c : Int) ≤ 20 := hf.1.2.2.2
          clear hf
          obtain ⟨i0, hi0, hz0, hz1, hz2⟩ := info_parts i64_info
          obtain ⟨W1, hmk, ho, hg⟩ := run_make_full (P := Try.prog) w w.heap.size 23 3 i0 (.int .i64 0) 1 Try.underlying23 hi0 hz0 hz1 .i64 .i64 k (by rw [hz2]; omega) (by unfold maxLen; omega) (Nat.le_refl _)
          have hrow : Row W1 w.heap.size k 3 (fun j => .int .i64 (Co.defs p l x c 0 j)) := by
            have := Row.made (h := fun j => .int .i64 (Co.defs p l x c 0 j)) ho (fun j hj => by rw [Nat.mul_one] at hj; simp [Co.defs, Value.cells, madeCells, hj, Nat.mod_one])
            rwa [Nat.mul_one] at this
          have hb1 : Below w.heap.size w W1 := (Below.refl _ _).grown hg (Nat.le_refl _) (fun _ h => by cases h)
          have HC : Hid (RCon w W1 W1.heap.size w.heap.size k (.slice none 0 0) 0 (Co.acct p l x rt c) (Co.defs p l x c 0)) := Lib.hid ⟨hrow, World.ownsRow_nil _ _ _ _, hb1, Nat.le_refl _, hrow.lt, Nat.le_refl _⟩
          clear hi0 hz0 hz1 hz2 ho hg hrow hb1 HB
          obtain ⟨base, hbase⟩ : ∃ b, W1.heap.size = b := ⟨_, rfl⟩
          obtain ⟨G, hG⟩ : ∃ b, w.heap.size = b := ⟨_, rfl⟩
          rw [hbase, hG] at HC
          rw [hG] at hmk
          clear hbase
          go_wp2_with fail
          clear hmk hG hlt
          obtain ⟨F, hF⟩ : ∃ F, Co.acct p l x rt c = F := ⟨_, rfl⟩
          have HFF := Lib.hid hF
          rw [hF] at HC
          obtain ⟨j0, hj0, hz0, hz1, hz2⟩ := info_parts prof_info
          have HI := Lib.hid hj0
          have HZ0 := Lib.hid hz0
          have HZ1 := Lib.hid hz1
          have HZ2 := Lib.hid hz2
          clear hF hj0 hz0 hz1 hz2
          go_loopw [13, 14, 15, 16, 17, 18, 19, 20, 21] (fun R ix _ _ _ _ _ _ _ wr => ∃ i : Nat, i ≤ k ∧ ix = .int .i64 i ∧ Hid (RCon w wr base G k R i F (Co.defs p l x c i))) (fun _ ix _ _ _ _ _ _ _ _ => k - (intOf ix).toNat)
          case atStart => exact ⟨0, Nat.zero_le _, rfl, HC⟩
          case round =>
            clear HC
            obtain ⟨i, hik, rfl, HC⟩ := hrel
            by_cases hlt : i < k
            · have hi0 : (0 : Int) ≤ i := by omega
              have hi1 : (i : Int) < k := by omega
              have hyi := HY.out i hlt
              have CS := Lib.hid (rshare_any (p i) x 4)
              rw [(Co.part_md hyi.1 ⟨hx.1, by have := hx.2; omega⟩).1] at CS
              have hres := Co.res_bound hyi hx
              have HRES : Hid (Co.res p l x i = p i - l i - Co.part (p i) x) := Lib.hid rfl
              have hpp := Co.part_le hyi.1.1 hx.1 hx.2
              have HDB := Lib.hid (Co.defs_bound (c := c) hx i fun t ht => HY.out t (by omega))
              have HLB := Lib.hid (Co.left_bound (c := c) hx (i := i) fun t ht => HY.out t (by omega))
              have HD1 := Lib.hid (Co.defs_bound (c := c) hx (i + 1) fun t ht => HY.out t (by omega))
              obtain ⟨s, hs⟩ : ∃ s, i - c = s := ⟨_, rfl⟩
              obtain ⟨kk, hkk⟩ : ∃ t, i - s = t := ⟨_, rfl⟩
              obtain ⟨s2, hs2⟩ : ∃ s, i + 1 - c = s := ⟨_, rfl⟩
              obtain ⟨k2, hk2⟩ : ∃ t, i + 1 - s2 = t := ⟨_, rfl⟩
              obtain ⟨q, hq⟩ : ∃ q, Co.part (p i) x = q := ⟨_, rfl⟩
              obtain ⟨r, hr⟩ : ∃ r, Co.res p l x i = r := ⟨_, rfl⟩
              obtain ⟨Rr, hR⟩ : ∃ t, max 0 r = t := ⟨_, rfl⟩
              have HBR : Hid (Co.brought p l x c i = Co.sumr (Co.defs p l x c i) s kk) := Lib.hid (by rw [Co.brought, hs, hkk])
              have HLE : Hid (Co.left p l x c i = Co.rest (Co.defs p l x c i) s Rr kk) := Lib.hid (by rw [Co.left, hr, hR, hs, hkk])
              have HDS : Hid (∀ j, Co.defs p l x c (i + 1) j = if j = i then max 0 (-r) else Co.offs (Co.defs p l x c i) s Rr kk j) := Lib.hid fun j => by rw [Co.defs, hr, hR, hs, hkk]
              have HAC : Hid (F i 0 = Co.sumr (Co.defs p l x c i) s kk ∧ F i 1 = r ∧ F i 2 = Co.part (Co.rest (Co.defs p l x c i) s Rr kk) rt ∧ F i 3 = Co.sumr (Co.defs p l x c (i + 1)) s2 k2) := Lib.hid (by
                rw [← HFF.out]
                exact ⟨HBR.out, hr, by show Co.comm p l x c rt i = _; rw [Co.comm, HLE.out], by show Co.carried p l x c i = _; rw [Co.carried, hs2, hk2]⟩)
              rw [HLE.out] at HLB
              obtain ⟨E, hE⟩ : ∃ E, Co.defs p l x c (i + 1) = E := ⟨_, rfl⟩
              obtain ⟨D, hD⟩ : ∃ D, Co.defs p l x c i = D := ⟨_, rfl⟩
              rw [hE, hD] at HDS HAC
              rw [hD] at HDB HLB HC
              rw [hE] at HD1
              obtain ⟨b, o, rfl, had, hc0, hc1⟩ := ((HP.out.below HC.out.bel).mono HC.out.bel.size).get hlt
              obtain ⟨pi, hpi⟩ : ∃ q, p i = q := ⟨_, rfl⟩
              obtain ⟨li, hli⟩ : ∃ q, l i = q := ⟨_, rfl⟩
              obtain ⟨⟨y0, y1⟩, y2, y3⟩ := hyi
              rw [hq, hpi] at CS hpp
              rw [hq, hr, hpi, hli] at HRES
              rw [hr] at hres
              rw [hpi] at hc0 y0 y1
              rw [hli] at hc1 y2 y3
              have hm1 : max ((i : Int) - (c : Int)) 0 = (s : Int) := by omega
              have hm2 : max ((i : Int) + 1 - (c : Int)) 0 = (s2 : Int) := by omega
              have hsi : s + kk = i := by omega
              have hs2i : s2 + k2 = i + 1 := by omega
              have HSI := Lib.hid hsi
              have HS2I := Lib.hid hs2i
              have hRb : 0 ≤ Rr ∧ Rr ≤ 68719476736 := by omega
              obtain ⟨R0, R1⟩ := hRb
              have HEE := Lib.hid hE
              have HRR := Lib.hid hR
              clear hE hD hpi hli hq hr hs hkk hs2 hk2 HBR HLE hsi hs2i hR
              have hw1 : IntKind.i64.wrap (pi - li) = pi - li := by rw [IntKind.wrap_i64]; omega
              have hw2 : IntKind.i64.wrap (pi - li - q) = r := by rw [HRES.out, IntKind.wrap_i64]; omega
              have hi20 : (i : Int) ≤ 20 := by omega
              go_wp2_with fail
              refine (CS.out _).mono ?_
              rintro e w' ⟨rfl, n1, rfl⟩
              go_upto_region 16 with (fail)
              obtain ⟨W, hW⟩ : ∃ W, wr.drewN n1 = W := ⟨_, rfl⟩
              replace HC : Hid (RCon w W base G k u13 i F D) := Lib.hid (by rw [← hW]; exact HC.out.drewN n1)
              replace hc0 : W.cell? ⟨b, o + i * 2, none⟩ = some (.int .i64 pi) := by rw [← hW]; exact hc0
              replace hc1 : W.cell? ⟨b, o + i * 2 + 1, none⟩ = some (.int .i64 li) := by rw [← hW]; exact hc1
              rw [hW]
              have had2 : b < W.heap.size := by rw [← hW]; exact had
              clear hW CS had
              have nn1 := World.new_ne W ⟨b, o + i * 2, none⟩ hc0
              have nn2 := World.new_ne W ⟨b, o + i * 2 + 1, none⟩ hc1
              go_cut [17] (fun p17 wx => p17 = .pointer (some ⟨W.heap.size, 0, none⟩) ∧ Hid (RMid w wx base G k u13 i F W.heap.size #[.int .i64 0, .int .i64 r, .int .i64 0, .int .i64 0] D))
              case first =>
                go_region_held3 (fun w' => w'.cell? ⟨b, o + i * 2, none⟩ = some (.int .i64 pi) ∧ w'.cell? ⟨b, o + i * 2 + 1, none⟩ = some (.int .i64 li)) (go_keep) (fail)
                all_goals
                  go_wp2_with fail
                  go_meet
                  case rel => exact ⟨rfl, Lib.hid (HC.out.mid (((Below.refl _ _).alloc (Nat.le_refl _) _).drew) (Has.drew (Has.new W _ _)))⟩
              case rest =>
                obtain ⟨rfl, HQ⟩ := hcut
                obtain ⟨P, hP⟩ : ∃ P, W.heap.size = P := ⟨_, rfl⟩
                rw [hP] at HQ ⊢
                clear hP HC hc0 hc1 had2 nn1 nn2 hw1 hw2
                obtain ⟨d0, d1, d2⟩ := HQ.out.acc.rules
                have hm0 : max r 0 = Rr := by have := HRR.out; omega
                go_wp2_with fail
                clear hm0 hm1 d0 d1 d2
                replace HQ : Hid (RMid w wc base G k u13 i F P #[.int .i64 (Co.sumr D s 0), .int .i64 r, .int .i64 0, .int .i64 0] (Co.offs D s Rr 0)) := Lib.hid (HQ.out.congr fun j _ => (Co.offs_zero D s Rr j).symm)
                go_loopw [18, 19, 20] (fun lf ix _ wr => ∃ j t : Nat, Hid (j = s + t) ∧ j ≤ i ∧ ix = .int .i64 j ∧ lf = .int .i64 (Co.rest D s Rr t) ∧ Hid (RMid w wr base G k u13 i F P #[.int .i64 (Co.sumr D s t), .int .i64 r, .int .i64 0, .int .i64 0] (Co.offs D s Rr t))) (fun _ ix _ _ => i - (intOf ix).toNat)
                case atStart => exact ⟨s, 0, Lib.hid rfl, by have := HSI.out; omega, rfl, rfl, HQ⟩
                case round =>
                  clear HQ
                  obtain ⟨j, t, HJ, hji, rfl, rfl, HQ⟩ := hrel
                  have hrb := Co.rest_bound (D := D) (s := s) R0 (fun j => (HDB.out j).1) t
                  by_cases hlt2 : j < i
                  · have hsb := Co.sumr_bound (s := s) t HDB.out
                    have ht20 : (t : Int) ≤ 20 := by have := HJ.out; omega
                    have hq0 := HQ.out.row.cell j (by omega)
                    have hq1 := HQ.out.row.free j
                    have hdb := HDB.out j
                    obtain ⟨dk, hdk⟩ : ∃ d, D (s + t) = d := ⟨_, rfl⟩
                    obtain ⟨rk, hrk⟩ : ∃ d, Co.rest D s Rr t = d := ⟨_, rfl⟩
                    obtain ⟨sk, hsk⟩ : ∃ d, Co.sumr D s t = d := ⟨_, rfl⟩
                    have HS1 : Hid (Co.rest D s Rr (t + 1) = rk - min dk rk) := Lib.hid (by rw [Co.rest, hdk, hrk])
                    have HS3 : Hid (Co.sumr D s (t + 1) = sk + dk) := Lib.hid (by rw [Co.sumr, hdk, hsk])
                    have HS2 : Hid (∀ j, Co.offs D s Rr (t + 1) j = if j = s + t then dk - min dk rk else Co.offs D s Rr t j) := Lib.hid fun j => by rw [Co.offs_succ, hdk, hrk]
                    have HOD : Hid (Co.offs D s Rr t j = dk) := Lib.hid (by rw [HJ.out, Co.offs_at, hdk])
                    rw [HOD.out] at hq0
                    rw [show D j = dk by rw [HJ.out, hdk]] at hdb
                    rw [hrk] at hrb ⊢
                    rw [hsk] at hsb HQ
                    have hsb2 : 0 ≤ sk ∧ sk ≤ 1374389534720 := by omega
                    obtain ⟨hdb0, hdb1⟩ := hdb
                    obtain ⟨hrb0, hrb1⟩ := hrb
                    obtain ⟨sb0, sb1⟩ := hsb2
                    have hj0 : (0 : Int) ≤ j := by omega
                    have hj1 : (j : Int) < i := by omega
                    have hj2 : (j : Int) < k := by omega
                    clear hdk hrk hsk hsb
                    obtain ⟨m, hm⟩ : ∃ m, min dk rk = m := ⟨_, rfl⟩
                    rw [hm] at HS1 HS2
                    have hmb : 0 ≤ m ∧ m ≤ dk ∧ m ≤ rk := by omega
                    obtain ⟨m0, m1, m2⟩ := hmb
                    obtain ⟨d0, d1, d2⟩ := HQ.out.acc.rules
                    have hw3 : IntKind.i64.wrap (sk + dk) = sk + dk := by rw [IntKind.wrap_i64]; omega
                    go_upto_region 21 with (fail)
                    go_region
                    all_goals
                      replace HQ := Lib.hid (HQ.out.putAcc 0 (.int .i64 (sk + dk))).drew
                      go_upto_region 22 with (fail)
                      obtain ⟨W2, hW2⟩ : ∃ W2, (wr.setCell ⟨P, 0, none⟩ (.int .i64 (sk + dk))).drew = W2 := ⟨_, rfl⟩
                      rw [hW2] at HQ ⊢
                      clear hW2 d0 d1 d2 hq0 hq1 hw3
                      have hq0 := HQ.out.row.cell j (by omega)
                      have hq1 := HQ.out.row.free j
                      rw [HOD.out] at hq0
                      have HQ2 : Hid (RMid w (W2.setCell ⟨G, j, none⟩ (.int .i64 (dk - m))) base G k u13 i F P #[.int .i64 (Co.sumr D s (t + 1)), .int .i64 r, .int .i64 0, .int .i64 0] (Co.offs D s Rr (t + 1))) := Lib.hid (by rw [HS3.out]; exact (HQ.out.putRow j (dk - m)).congr fun y _ => by rw [HS2.out, ← HJ.out])
                      go_wp2_with fail
                      go_roundw
                      case rel => exact ⟨j + 1, t + 1, Lib.hid (by have := HJ.out; omega), by omega, by go_num, by rw [HS1.out], HQ2⟩
                      case measure => simp [intOf]; omega
                  · obtain rfl : j = i := by omega
                    have htk : t = kk := by have := HJ.out; have := HSI.out; omega
                    subst htk
                    obtain ⟨L, hL⟩ : ∃ L, Co.rest D s Rr t = L := ⟨_, rfl⟩
                    rw [hL] at HLB HAC ⊢
                    have CS2 := Lib.hid (rshare_any L rt 4)
                    rw [(Co.part_md HLB.out ⟨hrt.1, by have := hrt.2; omega⟩).1] at CS2
                    obtain ⟨z2, hz2⟩ : ∃ z, Co.part L rt = z := ⟨_, rfl⟩
                    obtain ⟨z0, hz0⟩ : ∃ z, Co.sumr D s t = z := ⟨_, rfl⟩
                    rw [hz2] at HAC CS2
                    rw [hz0] at HAC HQ
                    clear hL hz2 hz0 HLB hrb
                    obtain ⟨d0, d1, d2⟩ := HQ.out.acc.rules
                    go_wp2_with fail
                    refine (CS2.out _).mono ?_
                    rintro e w' ⟨rfl, n2, rfl⟩
                    go_upto_region 25 with (fail)
                    replace HQ := Lib.hid ((HQ.out.drewN n2).putAcc 2 (.int .i64 z2))
                    obtain ⟨W3, hW3⟩ : ∃ W3, (wr.drewN n2).setCell ⟨P, 2, none⟩ (.int .i64 z2) = W3 := ⟨_, rfl⟩
                    rw [hW3] at HQ ⊢
                    clear hW3 d0 d1 d2 CS2
                    obtain ⟨d0, d1, d2⟩ := HQ.out.acc.rules
                    have hq0 := HQ.out.row.cell j (by omega)
                    have hq1 := HQ.out.row.free j
                    obtain ⟨u, hu⟩ : ∃ u, max (-r) 0 = u := ⟨_, rfl⟩
                    have HU := Lib.hid hu
                    go_upto_region 26 with (fail)
                    replace HQ : Hid (RMid w (W3.setCell ⟨G, j, none⟩ (.int .i64 u)) base G k u13 j F P #[.int .i64 z0, .int .i64 r, .int .i64 z2, .int .i64 (Co.sumr E s2 0)] E) := Lib.hid ((HQ.out.putRow j u).congr fun y _ => by
                      rw [HDS.out y]
                      by_cases e : y = j
                      · rw [if_pos e, if_pos e]; have := HU.out; omega
                      · rw [if_neg e, if_neg e])
                    obtain ⟨W4, hW4⟩ : ∃ W4, W3.setCell ⟨G, j, none⟩ (.int .i64 u) = W4 := ⟨_, rfl⟩
                    rw [hW4] at HQ ⊢
                    clear hW4 d0 d1 d2 hq0 hq1 hu HU
                    go_wp2_with fail
                    clear hm2
                    go_loopw [21] (fun ix wr => ∃ y t : Nat, Hid (y = s2 + t) ∧ y ≤ j + 1 ∧ ix = .int .i64 y ∧ Hid (RMid w wr base G k u13 j F P #[.int .i64 z0, .int .i64 r, .int .i64 z2, .int .i64 (Co.sumr E s2 t)] E)) (fun ix _ => j + 1 - (intOf ix).toNat)
                    case atStart => exact ⟨s2, 0, Lib.hid rfl, by have := HS2I.out; omega, rfl, HQ⟩
                    case round =>
                      clear HQ
                      obtain ⟨y, t2, HJ2, hyj, rfl, HQ⟩ := hrel
                      have hy0 : (0 : Int) ≤ y := by omega
                      by_cases hlt3 : y ≤ j
                      · have hsb := Co.sumr_bound (s := s2) t2 HD1.out
                        have ht20 : (t2 : Int) ≤ 21 := by have := HJ2.out; omega
                        have hq0 := HQ.out.row.cell y (by omega)
                        have hq1 := HQ.out.row.free y
                        have hdb := HD1.out y
                        obtain ⟨dk, hdk⟩ : ∃ d, E y = d := ⟨_, rfl⟩
                        obtain ⟨sk, hsk⟩ : ∃ d, Co.sumr E s2 t2 = d := ⟨_, rfl⟩
                        have HS3 : Hid (Co.sumr E s2 (t2 + 1) = sk + dk) := Lib.hid (by rw [Co.sumr, ← HJ2.out, hdk, hsk])
                        rw [hdk] at hq0 hdb
                        rw [hsk] at hsb HQ
                        have hsb2 : 0 ≤ sk ∧ sk ≤ 1443109011456 := by omega
                        obtain ⟨hdb0, hdb1⟩ := hdb
                        obtain ⟨sb0, sb1⟩ := hsb2
                        have hy1 : (y : Int) ≤ j := by omega
                        have hy2 : (y : Int) < k := by omega
                        clear hdk hsk hsb
                        obtain ⟨d0, d1, d2⟩ := HQ.out.acc.rules
                        have hw3 : IntKind.i64.wrap (sk + dk) = sk + dk := by rw [IntKind.wrap_i64]; omega
                        have HQ2 : Hid (RMid w (wr.setCell ⟨P, 3, none⟩ (.int .i64 (sk + dk))).drew base G k u13 j F P #[.int .i64 z0, .int .i64 r, .int .i64 z2, .int .i64 (Co.sumr E s2 (t2 + 1))] E) := Lib.hid (by rw [HS3.out]; exact (HQ.out.putAcc 3 (.int .i64 (sk + dk))).drew)
                        go_upto_region 29 with (fail)
                        go_region
                        all_goals
                          go_wp2_with fail
                          go_roundw
                          case rel => exact ⟨y + 1, t2 + 1, Lib.hid (by have := HJ2.out; omega), by omega, by go_num, HQ2⟩
                          case measure => simp [intOf]; omega
                      · have htk : t2 = k2 := by have := HJ2.out; have := HS2I.out; omega
                        subst htk
                        have hy1 : (j : Int) < y := by omega
                        obtain ⟨z3, hz3⟩ : ∃ z, Co.sumr E s2 t2 = z := ⟨_, rfl⟩
                        rw [hz3] at HQ HAC
                        clear hz3
                        obtain ⟨d0, d1, d2⟩ := HQ.out.acc.rules
                        have hsz : base ≤ wr.heap.size := by have := HQ.out.bP; have := HQ.out.acc.lt; omega
                        have HNL : Hid (quadL (j + 1) F = quadL j F ++ [.int .i64 z0, .int .i64 r, .int .i64 z2, .int .i64 z3]) := Lib.hid (by
                          obtain ⟨e0, e1, e2, e3⟩ := HAC.out
                          rw [quadL_succ, e0, e1, e2, e3])
                        go_wp2_with ((at_builtin; refine wpList_append_lies _ rfl _ _ 38 rfl base 42 j0 _ 4 32 Try.underlying38 HI.out HZ0.out HZ1.out HZ2.out rfl (by omega) u13 j (quadL j F) rfl (HQ.out.own.alloc _) ⟨wr.heap.size, 0, none⟩ 1 1 [.int .i64 z0, .int .i64 r, .int .i64 z2, .int .i64 z3] rfl rfl (World.news_of_block (cs := #[.int .i64 z0, .int .i64 r, .int .i64 z2, .int .i64 z3]) (t := 42) (fr := (0, 0)) (heap_alloc_new wr _)) (by simp [Value.oneCell']) (by omega) (by unfold maxLen; omega) (by omega) (by simp; omega) (wr.heap.size + 1) (by simp) ?_; intro g cap w4 hown hgrow hat hlt4; have HC2 := Lib.hid (HQ.out.app (by rw [HNL.out]; exact hown) hgrow); clear hgrow hat hlt4 hown))
                        go_roundw
                        case rel => exact ⟨j + 1, by omega, by go_num, by rw [← HEE.out] at HC2; exact HC2⟩
                        case measure => simp [intOf]; omega
            · obtain rfl : i = k := by omega
              obtain ⟨A', cap, rfl⟩ : ∃ A' cap, u13 = .slice A' i cap := by
                rcases HC.out.own.2 with ⟨hv, hv0⟩ | ⟨g, cap, cur, hv, _⟩
                · exact ⟨none, 0, by rw [hv, hv0]⟩
                · exact ⟨_, cap, hv⟩
              go_wp2_with fail
              go_ret2
              exact ⟨A', i, cap, by rw [HE.out]; rfl, HC.out.bel, by rw [HE.out, if_pos rfl], fun _ => by rw [Int.toNat_natCast, HFF.out]; exact Quads.of_own HC.out.own⟩
end Go.Proofs.Ytedkdflecdggpaa
