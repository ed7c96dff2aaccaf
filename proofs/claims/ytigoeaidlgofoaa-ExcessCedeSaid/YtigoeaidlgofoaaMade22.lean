/- What made returned, and what the laws of an indexed layer carry along. -/
import Derived.Test.YtigoeaidlgofoaaDkT
import Derived.Test.YtigoeaidlgofoaaIdx22
import Derived.Test.YtigoeaidlgofoaaTyG
import Derived.Deep.RegionHeld3
import Derived.Test.YtigoeaidlgofoaaArgsU
import Derived.Test.YtigoeaidlgofoaaIxA
namespace Go.Proofs.Ytigoeaidlgofoaa
open Go.RowKit
set_option linter.unusedVariables false

/-- the world after a whole treaty was stored -/
def tyPut (w : World) (v u : Value) : World := match v, u with
  | .pointer (some a), .agg cs => w.setRow a.block cs
  | _, _ => w
/-- the value of a whole treaty -/
def TyVal (v : Value) : Prop := ∃ t : Ty, v = .agg t.cells
theorem exec_store_ty {ev : Operand → Value} {d : Option Tmp} {x y : Operand} {ty : TypeId} {pos : String} {af : Array Edge} {g : Option (Nat × Bool)} {w : World} (h : TyAt w (ev x)) (hy : TyVal (ev y)) :
    (execOp ev { dst := d, op := .store 59 x y, type := ty, pos := pos, after := af, guard := g }).run Try.prog w = .ok .skip (tyPut w (ev x) (ev y)) := by
  obtain ⟨b, cs, hv, hb, hc⟩ := h
  obtain ⟨t, ht⟩ := hy
  have e : tyPut w (.pointer (some ⟨b, 0, none⟩)) (.agg t.cells) = w.setRow b t.cells := rfl
  unfold execOp
  simp only [hv, ht, Instr.storeAt, Instr.sureAddr, Sem.run_bind, Sem.run_pure, Result.andThen_ok, run_storeVar_row w b 59 59 cs t.cells hb ty_info hc (by rw [← Array.all_toList]; rfl), e]
attribute [local go_sem ↓] exec_load_ty exec_store_ty
theorem TyTwo.of {w : World} {H G : Nat} {t : Ty} (h1 : t.Box w H) (h2 : ∃ cs : Array Value, cs.size = 21 ∧ Has w G cs 59) : TyAt w (.pointer (some ⟨H, 0, none⟩)) ∧ tyCells w (.pointer (some ⟨H, 0, none⟩)) = t.cells ∧ TyAt w (.pointer (some ⟨G, 0, none⟩)) := by
  obtain ⟨cs, hs, hh⟩ := h2
  exact ⟨(box_load h1).1, (box_load h1).2.1, G, cs, rfl, hh, hs⟩
theorem TyTwo.put {w : World} {H G : Nat} {t : Ty} (h1 : t.Box w H) (h2 : ∃ cs : Array Value, cs.size = 21 ∧ Has w G cs 59) (hn : H ≠ G) :
    TyAt (tyPut w (.pointer (some ⟨G, 0, none⟩)) (.agg t.cells)) (.pointer (some ⟨H, 0, none⟩)) ∧ tyCells (tyPut w (.pointer (some ⟨G, 0, none⟩)) (.agg t.cells)) (.pointer (some ⟨H, 0, none⟩)) = t.cells ∧ TyAt (tyPut w (.pointer (some ⟨G, 0, none⟩)) (.agg t.cells)) (.pointer (some ⟨G, 0, none⟩)) := by
  obtain ⟨cs, hs, hh⟩ := h2
  exact TyTwo.of (t := t) ((setRow_other w G H t.cells hn).trans h1) ⟨t.cells, rfl, setRow_heap w G cs t.cells _ (0, 0) hh⟩
theorem tyPut_leaves {w : World} {G : Nat} {u : Array Value} : Leaves (fun k => k = G) w (tyPut w (.pointer (some ⟨G, 0, none⟩)) (.agg u)) :=
  ⟨rfl, rfl, rfl, by show w.heap.size ≤ (w.setRow G u).heap.size; simp [World.setRow], fun k _ hn => setRow_other w G k u hn⟩
theorem tyPut_has {w : World} {G : Nat} {t : Ty} (h2 : ∃ cs : Array Value, cs.size = 21 ∧ Has w G cs 59) : t.Box (tyPut w (.pointer (some ⟨G, 0, none⟩)) (.agg t.cells)) G := by
  obtain ⟨cs, hs, hh⟩ := h2
  exact setRow_heap w G cs t.cells _ (0, 0) hh

/-- three results: a treaty out of memory, a slice, a pointer -/
theorem made_out (W : World) (G : Nat) (t : Ty) (u v : Value) (tmps : Array Value) (h : t.Box W G) (h2 : tmps.getD 2 undef = .pointer (some ⟨G, 0, none⟩)) (h3 : tmps.getD 3 undef = u) (h4 : tmps.getD 4 undef = v) :
    (results Try.f32 tmps).run Try.prog W = .ok (.tuple #[.agg t.cells, u, v]) W := by
  have h2' : tmps[2]?.getD undef = .pointer (some ⟨G, 0, none⟩) := by simpa using h2
  have h3' : tmps[3]?.getD undef = u := by simpa using h3
  have h4' : tmps[4]?.getD undef = v := by simpa using h4
  have hl := run_loadVar_row (P := Try.prog) W G 59 59 t.cells (0, 0) _ h Try.underlying59 rfl ty_info
  simp [results, Try.results32, h2', h3', h4', asAddr, hl]

/-- numbers stand where a treaty has numbers -/
def IntAt (cs : Array Value) : Prop := ∀ (i : Nat) (x : Int), cs[i]? = some (.int .i64 x) → ∀ t : Ty, ∃ y : Int, t.cells[i]? = some (.int .i64 y)
theorem zero_intAt : IntAt #[.int .i64 0, .int .i64 0, .int .i64 0, .int .i64 0, .slice none 0 0, .slice none 0 0, .int .i64 0, .int .i64 0, .int .i64 0, .int .i64 0, .int .i64 0, .int .i64 0, .int .i64 0, .int .i64 0, .int .i64 0, .int .i64 0, .slice none 0 0, .bool false, .int .i64 0, .slice none 0 0, .slice none 0 0] := fun i x h t =>
  match i, h with
  | 0, _ => ⟨_, rfl⟩
  | 1, _ => ⟨_, rfl⟩
  | 2, _ => ⟨_, rfl⟩
  | 3, _ => ⟨_, rfl⟩
  | 4, h => by simp at h
  | 5, h => by simp at h
  | 6, _ => ⟨_, rfl⟩
  | 7, _ => ⟨_, rfl⟩
  | 8, _ => ⟨_, rfl⟩
  | 9, _ => ⟨_, rfl⟩
  | 10, _ => ⟨_, rfl⟩
  | 11, _ => ⟨_, rfl⟩
  | 12, _ => ⟨_, rfl⟩
  | 13, _ => ⟨_, rfl⟩
  | 14, _ => ⟨_, rfl⟩
  | 15, _ => ⟨_, rfl⟩
  | 16, h => by simp at h
  | 17, h => by simp at h
  | 18, _ => ⟨_, rfl⟩
  | 19, h => by simp at h
  | 20, h => by simp at h
  | i + 21, h => by simp at h
theorem IsDeck.rewritten {w w' : World} {b G : Nat} {cs cs' : Array Value} (h : IsDeck w b) (hG : Has w G cs 59) (hG' : Has w' G cs' 59) (hl : Leaves (fun k => k = G) w w') (hne : b ≠ G) (hi : ∀ (i : Nat) (x : Int), cs[i]? = some (.int .i64 x) → ∃ y : Int, cs'[i]? = some (.int .i64 y)) : IsDeck w' b := by
  obtain ⟨A, n, c, k, z, hh, h1, h2, hc⟩ := h
  by_cases hn : n = 0
  · subst hn
    exact ⟨A, 0, c, k, z, hh.leaves hl hne, h1, h2, fun q => absurd q (by omega)⟩
  · obtain ⟨g, o, rfl, hg, hcell⟩ := Cells.plain hc (by omega)
    by_cases e : g = G
    · subst e
      have hx : ∀ j, ∃ y : Int, j < n → w'.cell? ⟨g, o + j, none⟩ = some (.int .i64 y) := fun j => by
        by_cases hj : j < n
        · have := hcell j hj
          rw [hG.cell] at this
          obtain ⟨y, hy⟩ := hi _ _ this
          exact ⟨y, fun _ => by rw [hG'.cell]; exact hy⟩
        · exact ⟨0, fun q => absurd q hj⟩
      obtain ⟨z', hz'⟩ := Classical.skolem.1 hx
      exact ⟨_, n, c, k, z', hh.leaves hl hne, h1, h2, fun _ => ⟨_, rfl, hg, fun j hj => by rw [Go.WideShapes.add_plain]; exact hz' j hj⟩⟩
    · exact ⟨_, n, c, k, z, hh.leaves hl hne, h1, h2, fun hq => by
        obtain ⟨ad, e1, hlt, hcc⟩ := hc hq
        injection e1 with e1
        subst e1
        exact ⟨_, rfl, hlt, fun j hj => by
          have h3 := hcc j hj
          have h4 := cell_lt h3
          rw [add_block] at h4
          exact (World.cell?_of_block (w := w) (hl.block _ (by rw [add_block]; exact h4) (by rw [add_block]; exact e))).trans h3⟩⟩

theorem sz21 {w : World} {G : Nat} (h : ∃ cs : Array Value, (cs.size = 21 ∧ IntAt cs) ∧ Has w G cs 59) : ∃ cs : Array Value, cs.size = 21 ∧ Has w G cs 59 := by
  obtain ⟨cs, h1, h2⟩ := h
  exact ⟨cs, h1.1, h2⟩

def MadePost (w : World) (e : Ending) (w' : World) : Prop := ∃ (t : Ty) (g c b : Nat) (ps : List (Int × Int)), e = .returned (.tuple #[.agg t.cells, .slice (some ⟨g, 0, none⟩) ps.length c, .pointer (some ⟨b, 0, none⟩)]) ∧ t.err = 0 ∧ 4 ≤ t.kind ∧ t.kind ≤ 6 ∧ t.In w' w'.heap.size ∧ t.Over (b + 1) ∧
  ps.length ≤ 4 ∧ b < g ∧ w.heap.size ≤ b ∧ Pairs w' w'.heap.size (some ⟨g, 0, none⟩) ps.length (fstOf ps) (sndOf ps) ∧ Below w.heap.size w w' ∧ IsDeck w' b

set_option maxRecDepth 100000 in
set_option maxHeartbeats 4000000 in
theorem made22_any (A : Option Addr) (n c : Nat) (z : Nat → Int) (w : World) (hn : n ≤ 9223372036854775807) (hc : Cells w w.heap.size A n fun j => .int .i64 (z j)) :
    Calls Try.prog 32 #[.slice A n c] w (MadePost w) := by
  have HTI := Lib.hid ty_info
  have HC := Lib.hid hc
  clear hc
  go_enter Try.func32, Try.ntmps32
  go_upto_region 1 with (fail)
  obtain ⟨w1, hw1⟩ : ∃ w1, w.alloc (.cells #[.int .i64 0, .int .i64 0, .int .i64 0, .int .i64 0, .slice none 0 0, .slice none 0 0, .int .i64 0, .int .i64 0, .int .i64 0, .int .i64 0, .int .i64 0, .int .i64 0, .int .i64 0, .int .i64 0, .int .i64 0, .int .i64 0, .slice none 0 0, .bool false, .int .i64 0, .slice none 0 0, .slice none 0 0] 59) = w1 := ⟨_, rfl⟩
  obtain ⟨G, hG⟩ : ∃ G, w.heap.size = G := ⟨_, rfl⟩
  have HZ : Hid (∃ cs : Array Value, (cs.size = 21 ∧ IntAt cs) ∧ Has w1 G cs 59) := Lib.hid ⟨_, ⟨rfl, zero_intAt⟩, by rw [← hw1, ← hG]; exact Has.new _ _ _⟩
  have HB : Hid (Below w.heap.size w w1) := Lib.hid (by rw [← hw1]; exact (Below.refl _ _).alloc (Nat.le_refl _) _)
  have HGW := Lib.hid hG
  rw [hw1, hG]
  clear hw1 hG
  go_wp2_with fail
  refine (deck_new A n c z w1 hn ((HC.out.below HB.out).mono HB.out.size)).mono ?_
  rintro e w2 ⟨rfl, hb, hd⟩
  have hG1 : G < w1.heap.size := by obtain ⟨cs, h1, h2⟩ := HZ.out; exact h2.lt
  replace HZ : Hid (∃ cs : Array Value, (cs.size = 21 ∧ IntAt cs) ∧ Has w2 G cs 59) := Lib.hid (by obtain ⟨cs, h1, h2⟩ := HZ.out; exact ⟨cs, h1, h2.below hb h2.lt⟩)
  replace HB : Hid (Below w.heap.size w w2) := Lib.hid (HB.out.trans (hb.mono HB.out.size))
  obtain ⟨b, hbb⟩ : ∃ b, w1.heap.size = b := ⟨_, rfl⟩
  rw [hbb] at hd hG1 ⊢
  have HD := Lib.hid hd
  have HWB : Hid (w.heap.size < b) := Lib.hid (by rw [HGW.out]; omega)
  clear hbb hd hb HC
  have hbs := HD.out.lt
  go_wp2_with fail
  refine (range_any b _ _ _ HD.out (by omega) (by omega) (by omega) (by omega)).mono ?_
  rintro e w3 ⟨x, rfl, x0, x1, hk2, hd2⟩
  have HK := Lib.hid hk2
  replace HD := Lib.hid hd2
  replace HZ : Hid (∃ cs : Array Value, (cs.size = 21 ∧ IntAt cs) ∧ Has w3 G cs 59) := Lib.hid (by obtain ⟨cs, h1, h2⟩ := HZ.out; exact ⟨cs, h1, h2.keeps hk2 (by omega)⟩)
  clear hk2 hd2
  go_wp2_with fail
  refine (range_any b _ _ _ HD.out (by omega) (by omega) (by omega) (by omega)).mono ?_
  rintro e w4 ⟨y, rfl, y0, y1, hk2, hd2⟩
  replace HK := Lib.hid (HK.out.trans hk2)
  replace HD := Lib.hid hd2
  replace HZ : Hid (∃ cs : Array Value, (cs.size = 21 ∧ IntAt cs) ∧ Has w4 G cs 59) := Lib.hid (by obtain ⟨cs, h1, h2⟩ := HZ.out; exact ⟨cs, h1, h2.keeps hk2 (by omega)⟩)
  clear hk2 hd2
  have hb4 := HD.out.lt
  go_wp2_with fail
  refine (dtreaty_any b _ _ _ HD.out (by omega) (by omega) (by omega) (by omega)).mono ?_
  rintro e w5 ⟨t, rfl, hid, hkd, herr, hin, hov, hk2, hd2⟩
  replace HK := Lib.hid (HK.out.trans hk2)
  replace HD := Lib.hid hd2
  replace HZ : Hid (∃ cs : Array Value, (cs.size = 21 ∧ IntAt cs) ∧ Has w5 G cs 59) := Lib.hid (by obtain ⟨cs, h1, h2⟩ := HZ.out; exact ⟨cs, h1, h2.keeps hk2 (by omega)⟩)
  have HE : Hid (t.err = 0 ∧ 4 ≤ t.kind ∧ t.kind ≤ 6) := Lib.hid ⟨herr, by omega, by omega⟩
  have HI := Lib.hid hin
  have HO : Hid (t.Over (b + 1)) := Lib.hid (hov.mono (by omega))
  clear hk2 hd2 hid hkd herr hin hov
  have hz5 : G < w5.heap.size := by obtain ⟨cs, h1, h2⟩ := HZ.out; exact h2.lt
  go_upto_region 3 with ((refine wpList_store_has ?_ 59 (.tmp 6) (.tmp 14) ?_ w5.heap.size ?_ t.cells ?_ _ _ (Has.new w5 _ _) HTI.out ?_ ?_ ?_; rfl; rfl; rfl; rfl; rfl; rfl; intro w6 hh6 hl6))
  simp only [Act.put]
  obtain ⟨H, hH⟩ : ∃ H, w5.heap.size = H := ⟨_, rfl⟩
  have hb6 : Below w5.heap.size w5 w6 := ((Below.refl _ _).alloc (Nat.le_refl _) _).trans (hl6.below (fun k hk => by omega) (by simp))
  have HX : Hid (t.Box w6 H) := Lib.hid (by rw [← hH]; exact hh6)
  replace HZ : Hid (∃ cs : Array Value, (cs.size = 21 ∧ IntAt cs) ∧ Has w6 G cs 59) := Lib.hid (by obtain ⟨cs, h1, h2⟩ := HZ.out; exact ⟨cs, h1, h2.below hb6 h2.lt⟩)
  replace HD : Hid (IsDeck w6 b) := Lib.hid (HD.out.below hb6 HD.out.lt)
  replace HI : Hid (t.In w6 H) := Lib.hid (by rw [← hH]; exact HI.out.below hb6)
  replace HB : Hid (Below w.heap.size w w6) := Lib.hid (HB.out.trans ((HK.out.below (by have := HWB.out; omega) HB.out.size).trans (hb6.mono (by have := HK.out.size; have := HB.out.size; omega))))
  have hbH : b < H := by have := HD.out.lt; have := HK.out.size; omega
  have hGH : G < H := by omega
  rw [hH]
  clear hh6 hl6 hb6 hH hz5 HK hb4
  have htv : TyVal (.agg t.cells) := ⟨t, rfl⟩
  have HL6 : Hid (H < w6.heap.size) := Lib.hid HX.out.lt
  go_region_held3 (fun w' => TyAt w' (.pointer (some ⟨H, 0, none⟩)) ∧ tyCells w' (.pointer (some ⟨H, 0, none⟩)) = t.cells ∧ TyAt w' (.pointer (some ⟨G, 0, none⟩))) (first | exact TyTwo.of HX.out (sz21 HZ.out) | exact TyTwo.put HX.out (sz21 HZ.out) (by omega)) (first
    | (go_at_call 25; refine (indices_any b _ (HD.out.drewN 1)).mono ?_; rintro e w7 ⟨g, c', ps, rfl, hps1, hps4, hgb, hgw, hpp, hpa, hk2, hd2⟩; replace HX := Lib.hid (HX.out.drew.keeps hk2 (by omega)); replace HZ : Hid (∃ cs : Array Value, (cs.size = 21 ∧ IntAt cs) ∧ Has w7 G cs 59) := Lib.hid (by obtain ⟨cs, h1, h2⟩ := HZ.out; exact ⟨cs, h1, h2.drew.keeps hk2 (by omega)⟩); have HK := Lib.hid hk2; replace HD := Lib.hid hd2; have HPP := Lib.hid hpp; clear hk2 hd2 hpp hpa))
  all_goals
    have hH6 : H < w6.heap.size := HL6.out
    have hgG : G < g := by have : w6.heap.size ≤ g := hgw; omega
    have hbg : b < g := by have : w6.heap.size ≤ g := hgw; omega
    have hwb := HWB.out
    have hsz : w6.heap.size ≤ w7.heap.size := HK.out.size
    have hh7 : H ≤ w7.heap.size := by omega
    go_wp2_with fail
    refine bodyPost_ret (made_out _ G t _ _ _ (tyPut_has (sz21 HZ.out)) rfl rfl rfl) rfl ?_
    have hin7 : t.In w7 H := (HI.out.drewN 1).step HK.out HO.out
    refine ⟨t, g, c', b, ps, rfl, HE.out.1, HE.out.2.1, HE.out.2.2, ?_, HO.out, hps4, hbg, by omega, ?_, ?_, ?_⟩
    · refine (hin7.mono hh7).leaves tyPut_leaves fun k hk => ⟨fun ad e => ?_, fun ad e => ?_, fun ad e => ?_, fun ad e => ?_, fun ad e => ?_⟩
      · have := HO.out.1 ad e; omega
      · have := HO.out.2.1 ad e; omega
      · have := HO.out.2.2.1 ad e; omega
      · have := HO.out.2.2.2.1 ad e; omega
      · have := HO.out.2.2.2.2 ad e; omega
    · exact Cells.leaves HPP.out tyPut_leaves fun ad e => by injection e with e; subst e; simp only; omega
    · exact ((HB.out.drew).trans (HK.out.below (by omega) (by have := HB.out.size; exact this))).trans (tyPut_leaves.below (fun k hk => by have := HGW.out; omega) (by have := HB.out.size; omega))
    · obtain ⟨cs, hs, hhz⟩ := HZ.out
      exact HD.out.rewritten hhz (tyPut_has (t := t) ⟨cs, hs.1, hhz⟩) tyPut_leaves (by omega) fun i x hx => hs.2 i x hx t
end Go.Proofs.Ytigoeaidlgofoaa

namespace Go.Proofs.Ytigoeaidlgofoaa
open Go.RowKit
set_option linter.unusedVariables false

/-- the treaty t in block T, a table of an index, results that were laid -/
structure IxSt (w : World) (T : Nat) (t : Ty) (A : Option Addr) (n : Nat) (f g : Nat → Int) (ty : TypeId) (Ls : List (Nat × Array Value)) (W : World) : Prop where
  box : t.Box W T
  ins : t.In W T
  ps : Pairs W T A n f g
  below : Below w.heap.size w W
  wT : w.heap.size ≤ T
  ls : ∀ e, e ∈ Ls → Has W e.1 e.2 ty

section
variable {w W W' : World} {T n : Nat} {t : Ty} {A : Option Addr} {f g : Nat → Int} {ty : TypeId} {Ls : List (Nat × Array Value)}
theorem IxSt.lt (h : IxSt w T t A n f g ty Ls W) : T < W.heap.size := h.box.lt
theorem IxSt.next (h : IxSt w T t A n f g ty Ls W) (hb : Below W.heap.size W W') : IxSt w T t A n f g ty Ls W' :=
  have hT := h.lt
  ⟨h.box.below hb hT, h.ins.below (hb.mono (Nat.le_of_lt hT)), h.ps.below (hb.mono (Nat.le_of_lt hT)), h.below.trans (hb.mono h.below.size), h.wT, fun e he => (h.ls e he).below hb (h.ls e he).lt⟩
theorem IxSt.push (h : IxSt w T t A n f g ty Ls W) (cs : Array Value) : IxSt w T t A n f g ty ((W.heap.size, cs) :: Ls) (W.alloc (.cells cs ty)) := by
  have h' := h.next ((Below.refl W.heap.size W).alloc (Nat.le_refl _) (.cells cs ty))
  refine ⟨h'.box, h'.ins, h'.ps, h'.below, h'.wT, fun e he => ?_⟩
  rcases List.mem_cons.1 he with rfl | he
  · exact Has.new _ _ _
  · exact h'.ls e he
theorem IxSt.inn (h : IxSt w T t A n f g ty Ls W) : t.In W W.heap.size := h.ins.mono (Nat.le_of_lt h.lt)
theorem IxSt.prs (h : IxSt w T t A n f g ty Ls W) : Pairs W W.heap.size A n f g := h.ps.mono (Nat.le_of_lt h.lt)
theorem IxSt.out {A1 : Option Addr} {n1 : Nat} {f1 g1 : Nat → Int} (h : IxSt w T t A n f g ty Ls W) (hp : Pairs w w.heap.size A1 n1 f1 g1) : Pairs W W.heap.size A1 n1 f1 g1 := (hp.below h.below).mono h.below.size
end
theorem Ty.In.kind {t : Ty} {w : World} {B : Nat} (h : t.In w B) (k : Int) : ({ t with kind := k } : Ty).In w B := ⟨h.pe, h.ar, h.re, h.inu, h.pa, h.lpe, h.lar, h.lre, h.lin, h.lpa⟩
/-- the parts of a cession add up, and none is negative -/
theorem Ex.ced_sum {p : Int × Int × Int} {a : Int} (h : p.2.2 ≠ 0 ∨ (0 ≤ p.1 ∧ p.1 ≤ 17592186044416 ∧ 0 ≤ p.2.1 ∧ p.2.1 ≤ 17592186044416)) :
    (Ex.ced p a).2.2.2 = 0 → (Ex.ced p a).1 + (Ex.ced p a).2.1 + (Ex.ced p a).2.2.1 = a ∧ (0 ≤ (Ex.ced p a).1 ∧ (Ex.ced p a).1 ≤ 17592186044416) ∧ (0 ≤ (Ex.ced p a).2.1 ∧ (Ex.ced p a).2.1 ≤ 17592186044416) ∧ (0 ≤ (Ex.ced p a).2.2.1 ∧ (Ex.ced p a).2.2.1 ≤ 17592186044416) ∧ a ≤ 17592186044416 := by
  unfold Ex.ced
  by_cases h1 : p.2.2 ≠ 0
  · rw [if_pos h1]; intro h2; exact absurd h2 h1
  · rw [if_neg h1]
    by_cases h2 : ¬ (0 ≤ a ∧ a ≤ 17592186044416)
    · rw [if_pos h2]; intro h3; exact absurd h3 (by simp)
    · rw [if_neg h2]
      intro _
      have hb := Ex.layer_bound a p.1 p.2.1
      have hl : Ex.layer a p.1 p.2.1 ≤ max 0 (a - p.1) := by unfold Ex.layer Ex.lim; omega
      simp only
      omega
end Go.Proofs.Ytigoeaidlgofoaa
