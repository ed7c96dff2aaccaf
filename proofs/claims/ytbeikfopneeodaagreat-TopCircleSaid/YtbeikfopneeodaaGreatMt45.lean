/- treatymade2.Retros. -/
import Derived.Test.YtbeikfopneeodaaGreatMt44
namespace Go.Proofs.YtbeikfopneeodaaGreat
open Go.RowKit
set_option linter.unusedVariables false

theorem own_of_blocks {w w' : World} {base : Nat} {e : TypeId} {size n : Nat} {v : Value} {xs : List Value} (h : w.ownsRow base e size v n xs) (hq : ∀ q, v.ownBlock = some q → w'.heap[q]? = w.heap[q]?) : w'.ownsRow base e size v n xs := by
  refine ⟨h.1, ?_⟩
  rcases h.2 with h0 | ⟨g, cap, cur, hv, hg, hh, hr⟩
  · exact .inl h0
  · exact .inr ⟨g, cap, cur, hv, hg, (hq g (by rw [hv]; rfl)).trans hh, hr⟩
theorem own_block_lt {w : World} {base : Nat} {e : TypeId} {size n q : Nat} {v : Value} {xs : List Value} (h : w.ownsRow base e size v n xs) (hq : v.ownBlock = some q) : base ≤ q ∧ q < w.heap.size := by
  rcases h.2 with ⟨hv, _⟩ | ⟨g, cap, cur, hv, hg, hh, hr⟩
  · subst hv; simp [Value.ownBlock] at hq
  · subst hv
    simp only [Value.ownBlock, Option.some.injEq] at hq
    subst hq
    exact ⟨hg, Has.lt (t := e) (cs := cur) hh⟩

/-- what Retros holds on to -/
structure Inv (w : World) (b g gl n : Nat) (o L : Nat → Int) (v : Value) (m : Nat) (R : Nat → Re.Rt) (wr : World) : Prop where
  own : Row wr g n 3 (fun i => .int .i64 (o i))
  left : Row wr gl n 3 (fun i => .int .i64 (L i))
  rs : OwnR wr w.heap.size v m R
  keeps : Keeps b w wr
  deck : IsDeck wr b
  b0 : b < w.heap.size
  b1 : w.heap.size ≤ g
  b2 : w.heap.size ≤ gl
  b3 : g ≠ gl
  b4 : ∀ q, v.ownBlock = some q → q ≠ g ∧ q ≠ gl

section
variable {w wr w' : World} {b g gl n m : Nat} {o L : Nat → Int} {v : Value} {R : Nat → Re.Rt}
theorem Inv.step (h : Inv w b g gl n o L v m R wr) (hk : Keeps b wr w') (hd : IsDeck w' b) : Inv w b g gl n o L v m R w' :=
  ⟨h.own.keeps hk (by have := h.b0; have := h.b1; omega), h.left.keeps hk (by have := h.b0; have := h.b2; omega), h.rs.keeps hk h.b0, h.keeps.trans hk, hd, h.b0, h.b1, h.b2, h.b3, h.b4⟩
theorem Inv.alloc (h : Inv w b g gl n o L v m R wr) (x : Obj) : Inv w b g gl n o L v m R (wr.alloc x) :=
  h.step (Keeps.alloc (Keeps.refl _ _) x) (h.deck.alloc x)
theorem Inv.drew (h : Inv w b g gl n o L v m R wr) : Inv w b g gl n o L v m R wr.drew :=
  h.step (Keeps.drewN (Keeps.refl _ _) 1) (h.deck.drewN 1)
theorem Inv.set (h : Inv w b g gl n o L v m R wr) {bz : Nat} (hz : w.heap.size ≤ bz) (h1 : bz ≠ g) (h2 : bz ≠ gl) (h3 : ∀ q, v.ownBlock = some q → q ≠ bz) (i : Nat) (u : Value) : Inv w b g gl n o L v m R (wr.setCell ⟨bz, i, none⟩ u) :=
  ⟨h.own.far (Ne.symm h1) u, h.left.far (Ne.symm h2) u, own_of_blocks h.rs fun q hq => Below.heap_setCell wr ⟨bz, i, none⟩ u q (h3 q hq), h.keeps.far hz u, h.deck.far (by have := h.b0; simp only; omega) u, h.b0, h.b1, h.b2, h.b3, h.b4⟩
theorem Inv.putL (h : Inv w b g gl n o L v m R wr) (f : Nat) (z : Int) : Inv w b g gl n o (fun i => if i = f then z else L i) v m R (wr.setCell ⟨gl, f, none⟩ (.int .i64 z)) :=
  ⟨h.own.far h.b3 _, (h.left.put f _).congr fun j _ => by split <;> rfl, own_of_blocks h.rs fun q hq => Below.heap_setCell wr ⟨gl, f, none⟩ _ q (h.b4 q hq).2, h.keeps.far h.b2 _, h.deck.far (by have := h.b0; have := h.b2; simp only; omega) _, h.b0, h.b1, h.b2, h.b3, h.b4⟩
end

theorem upd_row {w : World} {g n : Nat} {t : TypeId} {o : Nat → Int} (h : Row w g n t (fun i => .int .i64 (o i))) (k : Nat) (z : Int) : Row (w.setCell ⟨g, k, none⟩ (.int .i64 z)) g n t (fun i => .int .i64 (if i = k then z else o i)) :=
  (h.put k _).congr fun j _ => by split <;> rfl
theorem upd_bound {n : Nat} {o : Nat → Int} {lo hi : Int} (h : ∀ i, i < n → lo ≤ o i ∧ o i ≤ hi) (k : Nat) {z : Int} (z0 : lo ≤ z) (z1 : z ≤ hi) : ∀ i, i < n → lo ≤ (if i = k then z else o i) ∧ (if i = k then z else o i) ≤ hi := fun i hi' => by
  split
  · exact ⟨z0, z1⟩
  · exact h i hi'
theorem next_place (f t n : Int) (f0 : 0 ≤ f) (f1 : f < n) (t0 : 0 ≤ t) (t1 : t ≤ n - 1 - 1) : 0 ≤ (f + 1 + t) % n ∧ (f + 1 + t) % n < n ∧ (f + 1 + t) % n ≠ f := by
  by_cases h : f + 1 + t < n
  · rw [Int.emod_eq_of_lt (by omega) h]; omega
  · have e : (f + 1 + t) % n = (f + 1 + t - n) % n := (Int.sub_emod_right _ _).symm
    rw [e, Int.emod_eq_of_lt (by omega) (by omega)]; omega

theorem own_alloc {w : World} {base : Nat} {e : TypeId} {size n : Nat} {v : Value} {xs : List Value} (h : w.ownsRow base e size v n xs) {o : Obj} : (w.alloc o).ownsRow base e size v n xs := h.alloc _
def snocR (m : Nat) (R : Nat → Re.Rt) (r : Re.Rt) : Nat → Re.Rt := fun j => if j = m then r else R j
theorem snocR_new (m : Nat) (R : Nat → Re.Rt) (r : Re.Rt) : snocR m R r m = r := if_pos rfl
theorem snocR_old {m : Nat} (R : Nat → Re.Rt) (r : Re.Rt) {j : Nat} (h : j ≠ m) : snocR m R r j = R j := if_neg h
theorem shs_snoc (m : Nat) (R : Nat → Re.Rt) (f d : Nat) (s2 re li : Int) (i : Nat) : Re.shs (snocR m R ⟨f, d, s2, re, li⟩) (m + 1) i = if i = f then Re.shs R m f + s2 else Re.shs R m i := by
  have h0 : ∀ q, Re.shs (snocR m R ⟨f, d, s2, re, li⟩) m q = Re.shs R m q := fun q => Re.acc_congr m q rfl fun j hj => by
    constructor
    · unfold Re.frN; rw [snocR_old R _ (by omega)]
    · rw [snocR_old R _ (by omega)]
  by_cases e : i = f
  · rw [if_pos e, e]
    have h1 : Re.shs (snocR m R ⟨f, d, s2, re, li⟩) (m + 1) f = _ := Re.acc_hit m f (by unfold Re.frN; rw [snocR_new]; simp)
    rw [h1, snocR_new]
    exact congrArg (· + s2) (h0 f)
  · rw [if_neg e]
    have h1 : Re.shs (snocR m R ⟨f, d, s2, re, li⟩) (m + 1) i = _ := Re.acc_miss m i (by unfold Re.frN; rw [snocR_new]; simpa using e)
    rw [h1]
    exact h0 i

def RFine (n m : Nat) (R : Nat → Re.Rt) : Prop := ∀ j, j < m → (0 ≤ (R j).fr ∧ (R j).fr < n ∧ 0 ≤ (R j).ds ∧ (R j).ds < n) ∧ (R j).fr ≠ (R j).ds ∧ Re.proper (R j) ∧ (R j).li ≤ 300

theorem row_zero {w' : World} {base n : Nat} {g : Nat} (ho : w'.ownsRow base 3 1 (.slice (some ⟨g, 0, none⟩) n n) n (madeCells (Value.cells (.int .i64 0)) (n * 1)).toList) : Row w' g n 3 (fun _ => .int .i64 0) := by
  have := Row.made (h := fun _ => .int .i64 0) ho (fun j hj => by rw [Nat.mul_one] at hj; simp [Value.cells, madeCells, hj, Nat.mod_one])
  rwa [Nat.mul_one] at this

set_option maxRecDepth 100000 in
theorem ret_info : (Tryz.prog.info? 42).map (fun i => (i.zero, i.size, i.bytes)) = some (some (.agg #[.int .i64 0, .int .i64 0, .int .i64 0, .int .i64 0, .int .i64 0]), 5, 40) := by kernel_rfl

set_option maxRecDepth 100000 in
set_option maxHeartbeats 4000000 in
theorem retros_any (b : Nat) (w : World) (hd : IsDeck w b) :
    Calls Tryz.prog 4 #[.pointer (some ⟨b, 0, none⟩)] w (RetrosPost b w) := by
  have HD := Lib.hid hd
  have hb0 := hd.lt
  obtain ⟨i0, hi0, hz0, hz1, hz2⟩ := info_parts int_info
  have HI := Lib.hid hi0
  have HZ0 := Lib.hid hz0
  have HZ1 := Lib.hid hz1
  have HZ2 := Lib.hid hz2
  clear hi0 hz0 hz1 hz2
  obtain ⟨j0, hi0, hz0, hz1, hz2⟩ := info_parts ret_info
  have JI := Lib.hid hi0
  have JZ0 := Lib.hid hz0
  have JZ1 := Lib.hid hz1
  have JZ2 := Lib.hid hz2
  clear hd hi0 hz0 hz1 hz2
  go_enter Tryz.func4, Tryz.ntmps4
  go_wp2_with fail
  refine (next_any b 5 w HD.out (by omega) (by omega)).mono ?_
  rintro e w1 ⟨k0, rfl, k00, k01, hk, hd⟩
  have HK := Lib.hid hk
  replace HD := Lib.hid hd
  have hs1 := hk.size
  clear hk hd
  obtain ⟨kk, rfl⟩ : ∃ n : Nat, k0 = n := ⟨k0.toNat, by omega⟩
  obtain ⟨n, hn⟩ : ∃ n, kk + 1 = n := ⟨_, rfl⟩
  have hn1 : 1 ≤ n := by omega
  have hn5 : n ≤ 5 := by omega
  have en : (1 : Int) + (kk : Int) = (n : Int) := by omega
  obtain ⟨W1, hmk, ho, hg⟩ := run_make_full (P := Tryz.prog) w1 w.heap.size 22 3 i0 (.int .i64 0) 1 Tryz.underlying22 HI.out HZ0.out HZ1.out .i64 .i64 n (by rw [HZ2.out]; omega) (by unfold maxLen; omega) hs1
  have HR0 := Lib.hid (row_zero ho)
  have hgB : Below w1.heap.size w1 W1 := (Below.refl w1.heap.size w1).grown hg (Nat.le_refl _) (fun _ h => by cases h)
  replace HK : Hid (Keeps b w W1) := Lib.hid (HK.out.trans (Keeps.of_below hgB b))
  replace HD := Lib.hid (HD.out.below hgB HD.out.lt)
  clear ho hg hgB
  obtain ⟨gb, hgb⟩ : ∃ g, w1.heap.size = g := ⟨_, rfl⟩
  rw [hgb] at HR0
  have hgw : w.heap.size ≤ gb := by omega
  go_wp2_with fail
  clear hmk hgb en
  go_loopw [5, 16] (fun _ i wr => ∃ (k : Nat) (o : Nat → Int), k ≤ n ∧ i = .int .i64 k ∧ Hid (Row wr gb n 3 (fun i => .int .i64 (o i))) ∧ Hid (∀ i, i < n → 0 ≤ o i ∧ o i ≤ 268435455) ∧ Hid (Keeps b w wr) ∧ Hid (IsDeck wr b)) (fun _ i _ => n - (intOf i).toNat)
  case atStart => exact ⟨0, fun _ => 0, Nat.zero_le _, rfl, HR0, Lib.hid fun i _ => ⟨Int.le_refl _, by simp⟩, HK, HD⟩
  case round =>
    clear HR0 HK HD
    obtain ⟨k, o, hk, rfl, HR, HO, HK, HD⟩ := hrel
    by_cases hlt : k < n
    · go_wp2_with fail
      refine (next_any b 3 _ HD.out (by omega) (by omega)).mono ?_
      rintro e w2 ⟨a, rfl, a0, a1, hk2, hd2⟩
      replace HR := Lib.hid (HR.out.keeps hk2 (by omega))
      replace HK := Lib.hid (HK.out.trans hk2)
      replace HD := Lib.hid hd2
      clear hk2 hd2
      have ha : a = 0 ∨ a = 1 ∨ a = 2 := by omega
      clear a0 a1
      rcases ha with rfl | rfl | rfl
      all_goals
        go_wp2_with fail
        refine (small_any b _ HD.out).mono ?_
        rintro e w3 ⟨y, rfl, y0, y1, hk2, hd2⟩
        replace HR := Lib.hid (HR.out.keeps hk2 (by omega))
        replace HK := Lib.hid (HK.out.trans hk2)
        replace HD := Lib.hid hd2
        clear hk2 hd2
        have hq0 := HR.out.cell k hlt
        have hq1 := HR.out.free k
        go_wp2_with fail
        go_roundw
        case rel =>
          first
          | exact ⟨k + 1, _, by omega, by go_num, Lib.hid (upd_row HR.out k 0), Lib.hid (upd_bound HO.out k (by omega) (by omega)), Lib.hid (HK.out.far (by simp only; omega) _), Lib.hid (HD.out.far (by simp only; omega) _)⟩
          | exact ⟨k + 1, _, by omega, by go_num, Lib.hid (upd_row HR.out k y), Lib.hid (upd_bound HO.out k y0 y1), Lib.hid (HK.out.far (by simp only; omega) _), Lib.hid (HD.out.far (by simp only; omega) _)⟩
        case measure => simp [intOf]; omega
    · have hs := HK.out.size
      obtain ⟨W2, hmk, ho, hg⟩ := run_make_full (P := Tryz.prog) wr w.heap.size 22 3 i0 (.int .i64 0) 1 Tryz.underlying22 HI.out HZ0.out HZ1.out .i64 .i64 n (by rw [HZ2.out]; omega) (by unfold maxLen; omega) hs
      have hgB : Below wr.heap.size wr W2 := (Below.refl wr.heap.size wr).grown hg (Nat.le_refl _) (fun _ h => by cases h)
      have hgl := HR.out.lt
      have HV : Hid (Inv w b gb wr.heap.size n o (fun i => Re.shs (fun _ => ⟨0, 0, 0, 0, 0⟩) 0 i) (.slice none 0 0) 0 (fun _ => ⟨0, 0, 0, 0, 0⟩) W2) := Lib.hid ⟨HR.out.below hgB HR.out.lt, row_zero ho, ⟨rfl, .inl ⟨rfl, rfl⟩⟩, HK.out.trans (Keeps.of_below hgB b), HD.out.below hgB HD.out.lt, hb0, hgw, hs, by omega, fun q hq => by simp [Value.ownBlock] at hq⟩
      clear ho hg hgB HR HK HD
      obtain ⟨gl, hgl'⟩ : ∃ g, wr.heap.size = g := ⟨_, rfl⟩
      rw [hgl'] at HV
      go_wp2_with fail
      clear hmk hgl' hgl hs
      refine (next_any b 7 _ HV.out.deck (by omega) (by omega)).mono ?_
      rintro e w2 ⟨q0, rfl, q00, q01, hk2, hd2⟩
      replace HV := Lib.hid (HV.out.step hk2 hd2)
      clear hk2 hd2
      obtain ⟨qn, rfl⟩ : ∃ n : Nat, q0 = n := ⟨q0.toNat, by omega⟩
      go_wp2_with fail
      go_loopw [7, 8, 9] (fun v i _ wr => ∃ (k m : Nat) (R : Nat → Re.Rt), k + m ≤ 6 ∧ i = .int .i64 k ∧ Hid (Inv w b gb gl n o (fun i => Re.shs R m i) v m R wr) ∧ Hid (RFine n m R) ∧ Hid (∀ i, i < n → Re.shs R m i ≤ 1000000)) (fun _ i _ _ => (intOf i).toNat)
      case atStart => exact ⟨qn, 0, _, by omega, rfl, HV, Lib.hid fun j hj => absurd hj (by omega), Lib.hid fun i _ => by simp [Re.shs, Re.acc]⟩
      case round =>
        clear HV
        obtain ⟨k, m, R, hkm, rfl, HV, HF, HS⟩ := hrel
        by_cases hz : k = 0
        · subst hz
          go_wp2_with fail
          go_ret2
          exact ⟨gb, n, m, _, o, R, rfl, hn1, hn5, by omega, hgw, HV.out.own, HV.out.rs, fun q hq => (HV.out.b4 q hq).1, HO.out, HF.out, HS.out, HV.out.keeps, HV.out.deck⟩
        have hk1 : (0 : Int) < k := by omega
        by_cases hn2 : n = 1
        · subst hn2
          go_wp2_with fail
          go_ret2
          exact ⟨gb, 1, m, _, o, R, rfl, hn1, hn5, by omega, hgw, HV.out.own, HV.out.rs, fun q hq => (HV.out.b4 q hq).1, HO.out, HF.out, HS.out, HV.out.keeps, HV.out.deck⟩
        have hn3 : (1 : Int) < n := by omega
        clear hz hn2
        go_wp2_with fail
        refine (next_any b n _ HV.out.deck (by omega) (by omega)).mono ?_
        rintro e w2 ⟨f0, rfl, f00, f01, hk2, hd2⟩
        replace HV := Lib.hid (HV.out.step hk2 hd2)
        clear hk2 hd2
        obtain ⟨f, rfl⟩ : ∃ n : Nat, f0 = n := ⟨f0.toNat, by omega⟩
        go_wp2_with fail
        refine (next_any b 2 _ HV.out.deck (by omega) (by omega)).mono ?_
        rintro e w2 ⟨a, rfl, a0, a1, hk2, hd2⟩
        replace HV := Lib.hid (HV.out.step hk2 hd2)
        clear hk2 hd2
        go_wp2_with fail
        refine (small_any b _ HV.out.deck).mono ?_
        rintro e w2 ⟨y, rfl, y0, y1, hk2, hd2⟩
        replace HV := Lib.hid (HV.out.step hk2 hd2)
        clear hk2 hd2
        obtain ⟨re, hre⟩ : ∃ re, a * y = re := ⟨_, rfl⟩
        have hre1 : 0 ≤ re ∧ re ≤ 268435455 := by
          have ha : a = 0 ∨ a = 1 := by omega
          rcases ha with rfl | rfl <;> omega
        obtain ⟨re0, re1⟩ := hre1
        have hwr : IntKind.i64.wrap re = re := by rw [IntKind.wrap_i64]; omega
        go_wp2_with fail
        refine (next_any b 300 _ HV.out.deck (by omega) (by omega)).mono ?_
        rintro e w2 ⟨l, rfl, l0, l1, hk2, hd2⟩
        replace HV := Lib.hid (HV.out.step hk2 hd2)
        clear hk2 hd2
        go_wp2_with fail
        have hbz1 := HV.out.own.lt
        have hbz2 := HV.out.left.lt
        have hbz3 := HV.out.keeps.size
        have HBZ : Hid (∀ q, u7.ownBlock = some q → q ≠ w2.heap.size) := Lib.hid fun q hq => by have := (own_block_lt HV.out.rs hq).2; omega
        obtain ⟨W, hW⟩ : ∃ W, w2.alloc (.cells #[.int .i64 (f : Int), .int .i64 0, .int .i64 0, .int .i64 re, .int .i64 (1 + l)] 42) = W := ⟨_, rfl⟩
        have HZ : Hid (Has W w2.heap.size #[.int .i64 (f : Int), .int .i64 0, .int .i64 0, .int .i64 re, .int .i64 (1 + l)] 42) := Lib.hid (by rw [← hW]; exact Has.new w2 _ _)
        replace HV : Hid (Inv w b gb gl n o (fun i => Re.shs R m i) u7 m R W) := Lib.hid (by rw [← hW]; exact HV.out.alloc _)
        rw [hW]
        obtain ⟨bz, hbz⟩ : ∃ b, w2.heap.size = b := ⟨_, rfl⟩
        rw [hbz] at HZ HBZ hbz1 hbz2 hbz3 ⊢
        clear hW hbz hre hwr
        obtain ⟨d0, d1, d2⟩ := HZ.out.rules
        have hwn : IntKind.i64.wrap ((n : Int) - 1) = (n : Int) - 1 := by rw [IntKind.wrap_i64]; omega
        have hwf : IntKind.i64.wrap ((f : Int) + 1) = (f : Int) + 1 := by rw [IntKind.wrap_i64]; omega
        have hnz : ((n : Int) == 0) = false := by rw [beq_eq_false_iff_ne]; omega
        have hnz2 : ¬ (n : Int) = 0 := by omega
        have hnz3 : ¬ n = 0 := by omega
        go_cut [] (fun wx => ∃ d : Nat, d < n ∧ d ≠ f ∧ Inv w b gb gl n o (fun i => Re.shs R m i) u7 m R wx ∧ Has wx bz #[.int .i64 (f : Int), .int .i64 (d : Int), .int .i64 0, .int .i64 re, .int .i64 (1 + l)] 42)
        case first =>
          go_region_law (first
            | (go_simp; go_at_call 13; refine (next_any b _ _ HV.out.drew.deck (by omega) (by omega)).mono ?_; rintro e w3 ⟨t, rfl, t0, t1, hk2, hd2⟩; replace HV := Lib.hid (HV.out.drew.step hk2 hd2); replace HZ := Lib.hid (Has.keeps (Has.drew HZ.out) hk2 (by omega)); clear hk2 hd2 d0 d1; obtain ⟨d0, d1, d3⟩ := HZ.out.rules; have hpl := next_place f t n (by omega) (by omega) t0 t1; obtain ⟨dd, hdd⟩ : ∃ d : Nat, ((f : Int) + 1 + t) % n = d := ⟨(((f : Int) + 1 + t) % n).toNat, by omega⟩; have hdt : ((f : Int) + 1 + t).tmod n = dd := (by rw [Int.tmod_eq_emod_of_nonneg (by omega)]; exact hdd); rw [hdd] at hpl; have hwt : IntKind.i64.wrap ((f : Int) + 1 + t) = (f : Int) + 1 + t := (by rw [IntKind.wrap_i64]; omega); have hwd : IntKind.i64.wrap (dd : Int) = dd := (by rw [IntKind.wrap_i64]; omega)))
          all_goals
            have HZ2 := Lib.hid (HZ.out.put 1 (.int .i64 (dd : Int)))
            have HV2 := Lib.hid (HV.out.set (bz := bz) hbz3 (by omega) (by omega) HBZ.out 1 (.int .i64 (dd : Int)))
            go_wp2_with fail
            go_meet
            case rel => exact ⟨dd, by omega, by omega, HV2.out, HZ2.out⟩
        case rest =>
          obtain ⟨d, hdn, hdf, hv, hz⟩ := hcut
          clear HV HZ d0 d1 d2 hwn hwf hnz hnz2 hnz3
          have HV := Lib.hid hv
          have HZ := Lib.hid hz
          clear hv hz
          go_wp2_with fail
          refine (next_any b 1000000 _ HV.out.deck (by omega) (by omega)).mono ?_
          rintro e w3 ⟨s, rfl, s0, s1, hk2, hd2⟩
          replace HV := Lib.hid (HV.out.step hk2 hd2)
          replace HZ := Lib.hid (HZ.out.keeps hk2 (by omega))
          clear hk2 hd2
          obtain ⟨d0, d1, d2⟩ := HZ.out.rules
          go_wp2_with fail
          have HZ2 := Lib.hid (HZ.out.put 2 (.int .i64 (1 + s)))
          have HV2 := Lib.hid (HV.out.set (bz := bz) hbz3 (by omega) (by omega) HBZ.out 2 (.int .i64 (1 + s)))
          clear HV HZ d0 d1 d2
          refine (next_any b 3 _ HV2.out.deck (by omega) (by omega)).mono ?_
          rintro e w4 ⟨q, rfl, q0, q1, hk2, hd2⟩
          have HV := Lib.hid (HV2.out.step hk2 hd2)
          have HZ := Lib.hid (HZ2.out.keeps hk2 (by omega))
          clear hk2 hd2 HV2 HZ2
          simp only [List.setIfInBounds_toArray, List.set_cons_zero, List.set_cons_succ] at HZ
          by_cases hq : q = 0
          case' pos =>
            subst hq
            obtain ⟨d0, d1, d2⟩ := HZ.out.rules
            go_wp2_with fail
            obtain ⟨W5, hW⟩ : ∃ W, w4.setCell ⟨bz, 2, none⟩ (.int .i64 1000000) = W := ⟨_, rfl⟩
            obtain ⟨sh, hsh⟩ : ∃ sh : Int, 1000000 = sh := ⟨_, rfl⟩
            replace HZ := Lib.hid (HZ.out.put 2 (.int .i64 1000000))
            replace HV := Lib.hid (HV.out.set (bz := bz) hbz3 (by omega) (by omega) HBZ.out 2 (.int .i64 1000000))
            rw [hW] at HZ HV ⊢
            simp only [List.setIfInBounds_toArray, List.set_cons_zero, List.set_cons_succ] at HZ
            rw [hsh] at HZ
            have sh0 : 1 ≤ sh := by omega
            have sh1 : sh ≤ 1000000 := by omega
            clear hW d0 d1 d2 hsh
          case' neg =>
            have hq2 : (q == 0) = false := by rw [beq_eq_false_iff_ne]; exact hq
            go_wp2_with fail
            obtain ⟨W5, hW⟩ : ∃ W, w4 = W := ⟨_, rfl⟩
            obtain ⟨sh, hsh⟩ : ∃ sh : Int, 1 + s = sh := ⟨_, rfl⟩
            rw [hW] at HZ HV ⊢
            rw [hsh] at HZ
            have sh0 : 1 ≤ sh := by omega
            have sh1 : sh ≤ 1000000 := by omega
            clear hW hsh hq2 hq
          all_goals
            obtain ⟨d0, d1, d2⟩ := HZ.out.rules
            have hfn : f < n := by omega
            have hq0 := HV.out.left.cell f hfn
            have hq1 := HV.out.left.free f
            have hLb := Re.acc_bound (fun _ => 0) (Re.frN R) (fun j => (R j).sh) 1000000 m f (fun j hj => by have := (HF.out j hj).2.2.1; exact ⟨by have := this.1; omega, this.2.1⟩) (by omega)
            have hLs := HS.out f hfn
            obtain ⟨L, hL⟩ : ∃ L, Re.shs R m f = L := ⟨_, rfl⟩
            have hL0 : 0 ≤ L := by rw [← hL, Re.shs]; omega
            rw [hL] at hq0 hLs
            have HL := Lib.hid hL
            clear hLb hL
            obtain ⟨s2, hs2⟩ : ∃ s2, min sh (1000000 - L) = s2 := ⟨_, rfl⟩
            have hs20 : 0 ≤ s2 ∧ s2 ≤ 1000000 ∧ L + s2 ≤ 1000000 := by omega
            obtain ⟨s20, s21, s22⟩ := hs20
            have hwL : IntKind.i64.wrap (1000000 - L) = 1000000 - L := by rw [IntKind.wrap_i64]; omega
            go_cut [] (fun wx => Inv w b gb gl n o (fun i => Re.shs R m i) u7 m R wx ∧ Has wx bz #[.int .i64 (f : Int), .int .i64 (d : Int), .int .i64 s2, .int .i64 re, .int .i64 (1 + l)] 42)
            case first =>
              have HZ2 : Hid (Has (W5.setCell ⟨bz, 2, none⟩ (.int .i64 s2)) bz #[.int .i64 (f : Int), .int .i64 (d : Int), .int .i64 s2, .int .i64 re, .int .i64 (1 + l)] 42) := Lib.hid (HZ.out.put 2 (.int .i64 s2))
              have HV2 := Lib.hid (HV.out.set (bz := bz) hbz3 (by omega) (by omega) HBZ.out 2 (.int .i64 s2))
              go_region
              all_goals
                go_wp2_with fail
                go_meet
                case rel => exact ⟨HV2.out.drew, HZ2.out.drew⟩
            case rest =>
              obtain ⟨hv, hz⟩ := hcut
              clear HV HZ d0 d1 d2 hq0 hq1 hwL
              have HV := Lib.hid hv
              have HZ := Lib.hid hz
              clear hv hz hs2
              obtain ⟨d0, d1, d2⟩ := HZ.out.rules
              by_cases hpos : 0 < s2
              · have hq0 := HV.out.left.cell f hfn
                have hq1 := HV.out.left.free f
                rw [HL.out] at hq0
                have hwL : IntKind.i64.wrap (L + s2) = L + s2 := by rw [IntKind.wrap_i64]; omega
                go_wp2_with fail
                go_cut [] (fun wx => Inv w b gb gl n o (fun i => if i = f then L + s2 else Re.shs R m i) u7 m R wx ∧ Has wx bz #[.int .i64 (f : Int), .int .i64 (d : Int), .int .i64 s2, .int .i64 re, .int .i64 (1 + l)] 42)
                case first =>
                  have HV2 := Lib.hid (HV.out.putL f (L + s2))
                  have HZ2 := Lib.hid (HZ.out.far (p := ⟨gl, f, none⟩) (by simp only; omega) (.int .i64 (L + s2)))
                  go_region
                  all_goals
                    go_wp2_with fail
                    go_meet
                    case rel => exact ⟨HV2.out.drew, HZ2.out.drew⟩
                case rest =>
                  obtain ⟨hv, hz⟩ := hcut
                  clear HV HZ d0 d1 d2 hq0 hq1 hwL
                  have HV := Lib.hid hv
                  have HZ := Lib.hid hz
                  clear hv hz
                  obtain ⟨d0, d1, d2⟩ := HZ.out.rules
                  have hbw := HV.out.keeps.size
                  go_wp2_with ((at_builtin; refine wpList_append_lies _ rfl _ _ 23 rfl w.heap.size 42 j0 _ 5 40 Tryz.underlying23 JI.out JZ0.out JZ1.out JZ2.out rfl (by omega) u7 m (retL m R) rfl (own_alloc HV.out.rs) ⟨wc.heap.size, 0, none⟩ 1 1 [.int .i64 (f : Int), .int .i64 (d : Int), .int .i64 s2, .int .i64 re, .int .i64 (1 + l)] rfl rfl (World.news_of_block (cs := #[.int .i64 (f : Int), .int .i64 (d : Int), .int .i64 s2, .int .i64 re, .int .i64 (1 + l)]) (t := 42) (fr := (0, 0)) (heap_alloc_new wc _)) (by simp [Value.oneCell']) (by omega) (by unfold maxLen; omega) (by omega) (by simp; omega) (wc.heap.size + 1) (by simp) ?_; intro gg cap w9 hown hgrow hat hlt9))
                  have HR2 : Hid (OwnR w9 w.heap.size (.slice (some ⟨gg, 0, none⟩) (m + 1) cap) (m + 1) (snocR m R ⟨f, d, s2, re, 1 + l⟩)) := Lib.hid (by unfold OwnR snocR; rw [retL_snoc]; exact hown)
                  have HV2 : Hid (Inv w b gb gl n o (fun i => Re.shs (snocR m R ⟨f, d, s2, re, 1 + l⟩) (m + 1) i) (.slice (some ⟨gg, 0, none⟩) (m + 1) cap) (m + 1) (snocR m R ⟨f, d, s2, re, 1 + l⟩) w9) := Lib.hid (by
                    have hb4 : ∀ q, u7.ownBlock = some q → q ≠ gb ∧ q ≠ gl := HV.out.b4
                    have hbel : ∀ q, q < wc.heap.size → some q ≠ u7.ownBlock → w9.heap[q]? = wc.heap[q]? := fun q hq hne => (hgrow.block q (by simp; omega) hne).trans (Below.heap_alloc wc _ q hq)
                    have e1 : Row w9 gb n 3 (fun i => .int .i64 (o i)) := by
                      obtain ⟨c, hh, hc1, hc2⟩ := HV.out.own
                      exact ⟨c, (hbel gb hh.lt (fun e => (hb4 gb e.symm).1 rfl)).trans hh, hc1, hc2⟩
                    have e2 : Row w9 gl n 3 (fun i => .int .i64 (if i = f then L + s2 else Re.shs R m i)) := by
                      obtain ⟨c, hh, hc1, hc2⟩ := HV.out.left
                      exact ⟨c, (hbel gl hh.lt (fun e => (hb4 gl e.symm).2 rfl)).trans hh, hc1, hc2⟩
                    have hgr : Keeps b w w9 := (HV.out.keeps.alloc _).grown hgrow fun q hq => (own_block_lt HV.out.rs hq).1
                    have hdk : IsDeck w9 b := (HV.out.deck.alloc _).below ((Below.refl (b + 1) _).grown hgrow (by simp; omega) fun q hq => by have := (own_block_lt HV.out.rs hq).1; omega) (by omega)
                    refine ⟨e1, e2.congr fun i hi => ?_, HR2.out, hgr, hdk, hb0, HV.out.b1, HV.out.b2, HV.out.b3, fun q hq => ?_⟩
                    · rw [shs_snoc, HL.out.symm]
                    · simp only [Value.ownBlock, Option.some.injEq] at hq
                      subst hq
                      rcases hat with h | h
                      · exact hb4 _ h
                      · omega)
                  have HF2 : Hid (RFine n (m + 1) (snocR m R ⟨f, d, s2, re, 1 + l⟩)) := Lib.hid fun j hj => by
                    by_cases e : j = m
                    · rw [e, snocR_new]
                      exact ⟨⟨by simp only; omega, by simp only; omega, by simp only; omega, by simp only; omega⟩, by simp only; omega, ⟨by simp only; omega, s21, re0, by simp only; omega, by simp only; omega, by simp only; omega⟩, by simp only; omega⟩
                    · rw [snocR_old R _ e]
                      exact HF.out j (by omega)
                  have HS2 : Hid (∀ i, i < n → Re.shs (snocR m R ⟨f, d, s2, re, 1 + l⟩) (m + 1) i ≤ 1000000) := Lib.hid fun i hi => by
                    rw [shs_snoc]
                    split
                    · rw [HL.out]; exact s22
                    · exact HS.out i hi
                  clear hown hgrow hat HV HZ d0 d1 d2
                  go_wp2_with fail
                  go_roundw
                  case rel => exact ⟨k - 1, m + 1, _, by omega, by congr 1; omega, HV2, HF2, HS2⟩
                  case measure => simp [intOf]; omega
              · go_wp2_with fail
                go_roundw
                case rel => exact ⟨k - 1, m, R, by omega, by congr 1; omega, HV, HF, HS⟩
                case measure => simp [intOf]; omega
end Go.Proofs.YtbeikfopneeodaaGreat
