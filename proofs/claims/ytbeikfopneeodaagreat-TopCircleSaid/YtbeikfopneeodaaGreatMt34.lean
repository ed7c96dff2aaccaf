/- A slice of structs of two numbers, copied and written. No program in sight. ledger.Entries at the two shares of the example (printed by wip/gen/tde.py). -/
import Derived.Test.YtbeikfopneeodaaGreatMt02
import Derived.Test.YtbeikfopneeodaaGreatMt33
import Derived.Test.YtbeikfopneeodaaGreatMt24
import Derived.Test.YtbeikfopneeodaaGreatMt13
namespace Go.Proofs.YtbeikfopneeodaaGreat
open Go.RowKit
theorem Pairs.news {w : World} {B : Nat} {ad : Addr} {ps : List (Int × Int)} (h : Pairs w B (some ad) ps.length (fstOf ps) (sndOf ps)) : ∀ j u, (cellsOf ps)[j]? = some u → w.cell? (ad.add j) = some u := fun j u hu => by
  have hj : j < ps.length * 2 := by
    rw [← cellsOf_length]
    rcases Nat.lt_or_ge j (cellsOf ps).length with h | h
    · exact h
    · rw [List.getElem?_eq_none h] at hu; cases hu
  obtain ⟨ad', e, _, hc⟩ := Cells.get h hj
  injection e with e
  subst e
  rw [hc, ← hu, cellsOf_get ps j hj]
theorem cellsOf_int (ps : List (Int × Int)) : ∀ u ∈ cellsOf ps, ∃ z : Int, u = .int .i64 z := fun u hu => by
  unfold cellsOf at hu
  obtain ⟨a, _, h⟩ := List.mem_flatMap.1 hu
  simp only [List.mem_cons, List.not_mem_nil, or_false] at h
  rcases h with h | h
  · exact ⟨_, h⟩
  · exact ⟨_, h⟩
theorem pairs_some {w : World} {base : Nat} {e : TypeId} {n c : Nat} {A : Option Addr} {xs : List Value} (h : w.ownsRow base e 2 (.slice A n c) n xs) (hx : ∀ u ∈ xs, ∃ z : Int, u = .int .i64 z) : ∃ f g, Pairs w w.heap.size A n f g := by
  have hl := h.1
  have h' : ∀ j, ∃ z : Int, ∀ hj : j < xs.length, xs[j] = .int .i64 z := fun j => by
    by_cases hj : j < xs.length
    · obtain ⟨z, hz⟩ := hx _ (List.getElem_mem hj)
      exact ⟨z, fun _ => hz⟩
    · exact ⟨0, fun h => absurd h hj⟩
  obtain ⟨z, hz⟩ := Classical.skolem.1 h'
  have hc := Cells.of_own h (fun j => .int .i64 (z j)) hz
  refine ⟨fun j => z (2 * j), fun j => z (2 * j + 1), Cells.congr hc fun j hj => ?_⟩
  unfold pairAt
  by_cases e : j % 2 = 0
  · rw [if_pos e]
    simp only [show 2 * (j / 2) = j by omega]
  · rw [if_neg e]
    simp only [show 2 * (j / 2) + 1 = j by omega]
theorem own_is {w : World} {base : Nat} {e : TypeId} {size n g c : Nat} {xs : List Value} (h : w.ownsRow base e size (.slice (some ⟨g, 0, none⟩) n c) n xs) : g < w.heap.size ∧ base ≤ g ∧ n ≤ c := by
  rcases h.2 with ⟨h, _⟩ | ⟨g', cap, cur, hv, hg, hh, hr, _⟩
  · cases h
  · injection hv with hv _ hc
    injection hv with hv
    injection hv with hv
    subst hv hc
    exact ⟨Has.lt (t := e) (cs := cur) hh, hg, hr⟩
end Go.Proofs.YtbeikfopneeodaaGreat
namespace Go.Proofs.YtbeikfopneeodaaGreat
open Go.RowKit
set_option linter.unusedVariables false

set_option maxRecDepth 100000 in
theorem mk_en4 (w : World) : (Instr.makeSlice 137 (.int .i64 0) (.int .i64 4)).run Tryz.prog w = .ok (.slice (some ⟨w.heap.size, 0, none⟩) 0 4) (w.alloc (.cells #[.int .i64 0, .int .i64 0, .int .i64 0, .int .i64 0, .int .i64 0, .int .i64 0, .int .i64 0, .int .i64 0, .int .i64 0, .int .i64 0, .int .i64 0, .int .i64 0, .int .i64 0, .int .i64 0, .int .i64 0, .int .i64 0, .int .i64 0, .int .i64 0, .int .i64 0, .int .i64 0] 99)) := by kernel_rfl
theorem own_zero {w : World} {base g cap s : Nat} {e : TypeId} {cs : Array Value} (h : Has w g cs e) (hb : base ≤ g) (hc : cs.size = cap * s) (hm : cap ≤ maxLen) : w.ownsRow base e s (.slice (some ⟨g, 0, none⟩) 0 cap) 0 [] :=
  ⟨by simp, .inr ⟨g, cap, cs, rfl, hb, h, by omega, hm, hc, by simp⟩⟩
theorem own_at {w : World} {base g cap : Nat} {l : List Nat} (h : w.ownsRow base 99 5 (.slice (some ⟨g, 0, none⟩) l.length cap) l.length (enF l)) (hl : ∀ j, j < l.length * 5 → (enF l)[j]? = some ((enN (l.getD (j / 5) 0)).enc.getD (j % 5) undef)) : EnAt w g l := by
  have ho := Own.of_row (F := fun j => (enN (l.getD (j / 5) 0)).enc.getD (j % 5) undef) h hl
  exact ⟨fun j hj => ho.cell hj, ho.lt⟩
theorem own_row_leaves {base size n g cap : Nat} {e : TypeId} {xs : List Value} {S : Nat → Prop} {w w' : World} (h : w.ownsRow base e size (.slice (some ⟨g, 0, none⟩) n cap) n xs) (hk : Leaves S w w') (hS : ¬ S g) : w'.ownsRow base e size (.slice (some ⟨g, 0, none⟩) n cap) n xs :=
  own_leaves h hk (fun k hk => by injection hk with hk; exact hk ▸ hS)

set_option maxRecDepth 100000 in
set_option maxHeartbeats 4000000 in
theorem entries_aw (X cap : Nat) (w : World) (h : ShAt w X) : Calls Tryz.prog 93 #[.slice (some ⟨X, 0, none⟩) 2 cap] w (CollPost w) := by
  have HX0 := Lib.hid h
  have CV := Lib.hid (cvalidate_aw X cap w h)
  clear h
  obtain ⟨i0, hi0, hz0, hz1, hz2⟩ := info_parts entry_all
  have HI := Lib.hid hi0
  have HZ0 := Lib.hid hz0
  have HZ1 := Lib.hid hz1
  have HZ2 := Lib.hid hz2
  clear hi0 hz0 hz1 hz2
  go_enter Tryz.func93, Tryz.ntmps93
  go_wp2_with fail
  refine CV.out.mono ?_
  rintro e w1 ⟨rfl, hb⟩
  have HB0 := Lib.hid hb
  clear hb CV
  have hmk := mk_en4
  have h24 : IntKind.i64.wrap (2 * 2) = 4 := by decide
  go_upto_region 5 with (fail)
  clear hmk h24
  have hE : Has (w1.alloc (.cells #[.int .i64 0, .int .i64 0, .int .i64 0, .int .i64 0, .int .i64 0, .int .i64 0, .int .i64 0, .int .i64 0, .int .i64 0, .int .i64 0, .int .i64 0, .int .i64 0, .int .i64 0, .int .i64 0, .int .i64 0, .int .i64 0, .int .i64 0, .int .i64 0, .int .i64 0, .int .i64 0] 99)) w1.heap.size #[.int .i64 0, .int .i64 0, .int .i64 0, .int .i64 0, .int .i64 0, .int .i64 0, .int .i64 0, .int .i64 0, .int .i64 0, .int .i64 0, .int .i64 0, .int .i64 0, .int .i64 0, .int .i64 0, .int .i64 0, .int .i64 0, .int .i64 0, .int .i64 0, .int .i64 0, .int .i64 0] 99 := Has.new _ _ _
  have HB : Hid (Below w.heap.size w (w1.alloc (.cells #[.int .i64 0, .int .i64 0, .int .i64 0, .int .i64 0, .int .i64 0, .int .i64 0, .int .i64 0, .int .i64 0, .int .i64 0, .int .i64 0, .int .i64 0, .int .i64 0, .int .i64 0, .int .i64 0, .int .i64 0, .int .i64 0, .int .i64 0, .int .i64 0, .int .i64 0, .int .i64 0] 99))) := Lib.hid (HB0.out.alloc HB0.out.size _)
  obtain ⟨v0, hv⟩ : ∃ W, w1.alloc (.cells #[.int .i64 0, .int .i64 0, .int .i64 0, .int .i64 0, .int .i64 0, .int .i64 0, .int .i64 0, .int .i64 0, .int .i64 0, .int .i64 0, .int .i64 0, .int .i64 0, .int .i64 0, .int .i64 0, .int .i64 0, .int .i64 0, .int .i64 0, .int .i64 0, .int .i64 0, .int .i64 0] 99) = W := ⟨_, rfl⟩
  obtain ⟨g0, hg⟩ : ∃ Q, w1.heap.size = Q := ⟨_, rfl⟩
  have HG : Hid (w.heap.size ≤ g0) := Lib.hid (by have := HB0.out.size; omega)
  rw [hv] at hE HB ⊢
  rw [hg] at hE ⊢
  have HRW0 := Lib.hid (own_zero (base := w.heap.size) (cap := 4) (s := 5) hE HG.out rfl (by unfold maxLen; omega))
  clear hE hv hg HG HB0
  go_wp2_with fail
  refine wp_loop_rounds 3 ?_
  rw [rounds_succ]
  have hx := (HX0.out.below HB.out).cells
  obtain ⟨x0, x1, x2, x3, x4, x5, x6, x7, x8, x9⟩ := hx
  have xl := (HX0.out.below HB.out).2
  go_upto_region 9 with (fail)
  have hs : Has ((v0.alloc (.cells #[.int .i64 7, .int .i64 0, .int .i64 0, .int .i64 50, .int .i64 15] 230)).alloc (.cells #[.int .i64 1, .int .i64 0, .int .i64 0, .int .i64 7, .int .i64 15] 99)) v0.heap.size #[.int .i64 7, .int .i64 0, .int .i64 0, .int .i64 50, .int .i64 15] 230 := (Has.new _ _ _).alloc _
  have he : Has ((v0.alloc (.cells #[.int .i64 7, .int .i64 0, .int .i64 0, .int .i64 50, .int .i64 15] 230)).alloc (.cells #[.int .i64 1, .int .i64 0, .int .i64 0, .int .i64 7, .int .i64 15] 99)) (v0.heap.size + 1) #[.int .i64 1, .int .i64 0, .int .i64 0, .int .i64 7, .int .i64 15] 99 := Has.new' _ _ _ _ (by simp)
  have hbu : Below v0.heap.size v0 ((v0.alloc (.cells #[.int .i64 7, .int .i64 0, .int .i64 0, .int .i64 50, .int .i64 15] 230)).alloc (.cells #[.int .i64 1, .int .i64 0, .int .i64 0, .int .i64 7, .int .i64 15] 99)) := (by (repeat' (first | (with_reducible exact Below.refl _ _) | (with_reducible refine Below.setCell ?_ ?_ _) | (with_reducible refine below_drewN ?_ _) | (with_reducible refine Below.drew ?_) | (with_reducible refine Below.alloc ?_ ?_ _))) <;> (first | omega | (simp <;> omega)))
  have hrw := own_below HRW0.out hbu
  have hne : g0 < v0.heap.size := (own_is HRW0.out).1
  have hbs := (own_is HRW0.out).2.1
  have hsz : ((v0.alloc (.cells #[.int .i64 7, .int .i64 0, .int .i64 0, .int .i64 50, .int .i64 15] 230)).alloc (.cells #[.int .i64 1, .int .i64 0, .int .i64 0, .int .i64 7, .int .i64 15] 99)).heap.size = v0.heap.size + 2 := by simp
  obtain ⟨u0, hu⟩ : ∃ W, (v0.alloc (.cells #[.int .i64 7, .int .i64 0, .int .i64 0, .int .i64 50, .int .i64 15] 230)).alloc (.cells #[.int .i64 1, .int .i64 0, .int .i64 0, .int .i64 7, .int .i64 15] 99) = W := ⟨_, rfl⟩
  obtain ⟨G, hG⟩ : ∃ Q, v0.heap.size = Q := ⟨_, rfl⟩
  obtain ⟨E, hE⟩ : ∃ Q, v0.heap.size + 1 = Q := ⟨_, rfl⟩
  have HN : Hid (E = G + 1 ∧ g0 < G ∧ w.heap.size ≤ g0 ∧ u0.heap.size = G + 2) := Lib.hid (by rw [← hu]; omega)
  replace HB : Hid (Below w.heap.size w ((v0.alloc (.cells #[.int .i64 7, .int .i64 0, .int .i64 0, .int .i64 50, .int .i64 15] 230)).alloc (.cells #[.int .i64 1, .int .i64 0, .int .i64 0, .int .i64 7, .int .i64 15] 99))) := Lib.hid (HB.out.trans (hbu.mono HB.out.size))
  rw [hu] at hs he hrw HB ⊢
  rw [hE] at he ⊢
  rw [hG] at hs ⊢
  have HS := Lib.hid hs
  have HE := Lib.hid he
  have HRU := Lib.hid hrw
  have hbase : w.heap.size ≤ u0.heap.size := HB.out.size
  clear hu hG hE hs he hrw hbu hne hbs hsz x0 x1 x2 x3 x4 x5 x6 x7 x8 x9 xl HRW0
  have e0 : u0.cell? ⟨E, 0, none⟩ = some (.int .i64 1) := HE.out.cell 0
  have e1 : u0.cell? ⟨E, 1, none⟩ = some (.int .i64 0) := HE.out.cell 1
  have e2 : u0.cell? ⟨E, 2, none⟩ = some (.int .i64 0) := HE.out.cell 2
  have e3 : u0.cell? ⟨E, 3, none⟩ = some (.int .i64 7) := HE.out.cell 3
  have e4 : u0.cell? ⟨E, 4, none⟩ = some (.int .i64 15) := HE.out.cell 4
  have el := HE.out.lt
  go_upto_region 10 with ((at_builtin; refine wpList_append_lies _ rfl _ _ 137 rfl w.heap.size 99 i0 _ 5 40 Tryz.underlying137 HI.out HZ0.out HZ1.out HZ2.out rfl (by omega) (.slice (some ⟨g0, 0, none⟩) 0 4) 0 (enF []) rfl (HRU.out.alloc _) ⟨u0.heap.size, 0, none⟩ 1 1 [.int .i64 1, .int .i64 0, .int .i64 0, .int .i64 7, .int .i64 15] rfl rfl (World.news_of_block (cs := #[.int .i64 1, .int .i64 0, .int .i64 0, .int .i64 7, .int .i64 15]) (t := 99) (fr := (0, 0)) (Has.new u0 _ _)) (by simp [Value.oneCell']) (by omega) (by unfold maxLen; omega) (by omega) (by simp; omega) (u0.heap.size + 1) (by simp) ?_; intro ha0 ca0 ua0 hown hgrow hat hlt4))
  have hla : Leaves (fun k => k = g0) u0 ua0 := ((Leaves.refl (fun k => k = g0) u0).alloc _).grown hgrow (fun k hk => .inl (Option.some.inj hk).symm)
  replace HS := Lib.hid (HS.out.leaves hla (by have := HN.out; show ¬ G = g0; omega))
  replace HE := Lib.hid (HE.out.leaves hla (by have := HN.out; show ¬ E = g0; omega))
  replace HB := Lib.hid (HB.out.trans (hla.new_or (by have := HN.out; omega) HB.out.size))
  have HRA : Hid (ua0.ownsRow w.heap.size 99 5 (.slice (some ⟨ha0, 0, none⟩) 1 ca0) 1 (enF [0])) := Lib.hid hown
  have HN1 : Hid (w.heap.size ≤ G ∧ E = G + 1 ∧ ha0 ≠ G ∧ ha0 ≠ E ∧ w.heap.size ≤ ha0 ∧ G + 2 ≤ ua0.heap.size) := Lib.hid (by have := HN.out; have := hla.size; have := (own_is hown).2.1; have : ha0 = g0 ∨ ha0 = u0.heap.size + 1 := hat.imp (fun h => (Option.some.inj h).symm) id; omega)
  clear hla hown hgrow hat hlt4 HRU HN hbase e0 e1 e2 e3 e4 el
  have s3 : ua0.cell? ⟨G, 3, none⟩ = some (.int .i64 50) := HS.out.cell 3
  have s4 : ua0.cell? ⟨G, 4, none⟩ = some (.int .i64 15) := HS.out.cell 4
  have e0 : ua0.cell? ⟨E, 0, none⟩ = some (.int .i64 1) := HE.out.cell 0
  have e4 : ua0.cell? ⟨E, 4, none⟩ = some (.int .i64 15) := HE.out.cell 4
  have ef0 : ua0.frozen? ⟨E, 0, none⟩ = false := HE.out.free _
  have ef4 : ua0.frozen? ⟨E, 4, none⟩ = false := HE.out.free _
  have el := HE.out.lt
  have gl := HS.out.lt
  have hge : G ≠ E := by have := HN1.out; omega
  have hw : IntKind.i64.wrap (50 - 15) = 35 := by decide
  go_region
  have hlb : Leaves (fun k => k = E) ua0 (((ua0.setCell ⟨E, 0, none⟩ (.int .i64 2)).setCell ⟨E, 4, none⟩ (.int .i64 35)).drew) := (((Leaves.refl (fun k => k = E) _).at _ _).at _ _).drew
  have hE2 : Has (((ua0.setCell ⟨E, 0, none⟩ (.int .i64 2)).setCell ⟨E, 4, none⟩ (.int .i64 35)).drew) E #[.int .i64 2, .int .i64 0, .int .i64 0, .int .i64 7, .int .i64 35] 99 := has_put_eq (has_put_eq HE.out rfl) rfl
  obtain ⟨ub0, hu⟩ : ∃ W, ((ua0.setCell ⟨E, 0, none⟩ (.int .i64 2)).setCell ⟨E, 4, none⟩ (.int .i64 35)).drew = W := ⟨_, rfl⟩
  rw [hu] at hlb hE2 ⊢
  have HE2 := Lib.hid hE2
  replace HB := Lib.hid (HB.out.trans (hlb.new_or (by have := HN1.out; omega) HB.out.size))
  have HRB := Lib.hid (own_row_leaves HRA.out hlb (by have := HN1.out; omega))
  have HN2 : Hid (E = G + 1 ∧ ha0 ≠ E ∧ w.heap.size ≤ ha0 ∧ G + 2 ≤ ub0.heap.size) := Lib.hid (by have := HN1.out; have := hlb.size; omega)
  have hbase : w.heap.size ≤ ub0.heap.size := HB.out.size
  clear hu hlb hE2 HRA HN1 s3 s4 e0 e4 ef0 ef4 el gl hge hw HS HE
  have e0 : ub0.cell? ⟨E, 0, none⟩ = some (.int .i64 2) := HE2.out.cell 0
  have e1 : ub0.cell? ⟨E, 1, none⟩ = some (.int .i64 0) := HE2.out.cell 1
  have e2 : ub0.cell? ⟨E, 2, none⟩ = some (.int .i64 0) := HE2.out.cell 2
  have e3 : ub0.cell? ⟨E, 3, none⟩ = some (.int .i64 7) := HE2.out.cell 3
  have e4 : ub0.cell? ⟨E, 4, none⟩ = some (.int .i64 35) := HE2.out.cell 4
  have el := HE2.out.lt
  go_upto_region 12 with ((at_builtin; refine wpList_append_lies _ rfl _ _ 137 rfl w.heap.size 99 i0 _ 5 40 Tryz.underlying137 HI.out HZ0.out HZ1.out HZ2.out rfl (by omega) (.slice (some ⟨ha0, 0, none⟩) 1 ca0) 1 (enF [0]) rfl (HRB.out.alloc _) ⟨ub0.heap.size, 0, none⟩ 1 1 [.int .i64 2, .int .i64 0, .int .i64 0, .int .i64 7, .int .i64 35] rfl rfl (World.news_of_block (cs := #[.int .i64 2, .int .i64 0, .int .i64 0, .int .i64 7, .int .i64 35]) (t := 99) (fr := (0, 0)) (Has.new ub0 _ _)) (by simp [Value.oneCell']) (by omega) (by unfold maxLen; omega) (by omega) (by simp; omega) (ub0.heap.size + 1) (by simp) ?_; intro hb0 cb0 v1 hown hgrow hat hlt4))
  have hla : Leaves (fun k => k = ha0) ub0 v1 := ((Leaves.refl (fun k => k = ha0) ub0).alloc _).grown hgrow (fun k hk => .inl (Option.some.inj hk).symm)
  replace HB := Lib.hid (HB.out.trans (hla.new_or (by have := HN2.out; omega) HB.out.size))
  have HRW1 : Hid (v1.ownsRow w.heap.size 99 5 (.slice (some ⟨hb0, 0, none⟩) 2 cb0) 2 (enF [0, 2])) := Lib.hid hown
  clear hla hown hgrow hat hlt4 HRB HN2 hbase e0 e1 e2 e3 e4 el HE2
  go_wp2_with fail
  rw [rounds_succ]
  have hx := (HX0.out.below HB.out).cells
  obtain ⟨x0, x1, x2, x3, x4, x5, x6, x7, x8, x9⟩ := hx
  have xl := (HX0.out.below HB.out).2
  go_upto_region 9 with (fail)
  have hs : Has ((v1.alloc (.cells #[.int .i64 7, .int .i64 1, .int .i64 2, .int .i64 50, .int .i64 15] 230)).alloc (.cells #[.int .i64 1, .int .i64 1, .int .i64 2, .int .i64 7, .int .i64 15] 99)) v1.heap.size #[.int .i64 7, .int .i64 1, .int .i64 2, .int .i64 50, .int .i64 15] 230 := (Has.new _ _ _).alloc _
  have he : Has ((v1.alloc (.cells #[.int .i64 7, .int .i64 1, .int .i64 2, .int .i64 50, .int .i64 15] 230)).alloc (.cells #[.int .i64 1, .int .i64 1, .int .i64 2, .int .i64 7, .int .i64 15] 99)) (v1.heap.size + 1) #[.int .i64 1, .int .i64 1, .int .i64 2, .int .i64 7, .int .i64 15] 99 := Has.new' _ _ _ _ (by simp)
  have hbu : Below v1.heap.size v1 ((v1.alloc (.cells #[.int .i64 7, .int .i64 1, .int .i64 2, .int .i64 50, .int .i64 15] 230)).alloc (.cells #[.int .i64 1, .int .i64 1, .int .i64 2, .int .i64 7, .int .i64 15] 99)) := (by (repeat' (first | (with_reducible exact Below.refl _ _) | (with_reducible refine Below.setCell ?_ ?_ _) | (with_reducible refine below_drewN ?_ _) | (with_reducible refine Below.drew ?_) | (with_reducible refine Below.alloc ?_ ?_ _))) <;> (first | omega | (simp <;> omega)))
  have hrw := own_below HRW1.out hbu
  have hne : hb0 < v1.heap.size := (own_is HRW1.out).1
  have hbs := (own_is HRW1.out).2.1
  have hsz : ((v1.alloc (.cells #[.int .i64 7, .int .i64 1, .int .i64 2, .int .i64 50, .int .i64 15] 230)).alloc (.cells #[.int .i64 1, .int .i64 1, .int .i64 2, .int .i64 7, .int .i64 15] 99)).heap.size = v1.heap.size + 2 := by simp
  obtain ⟨u1, hu⟩ : ∃ W, (v1.alloc (.cells #[.int .i64 7, .int .i64 1, .int .i64 2, .int .i64 50, .int .i64 15] 230)).alloc (.cells #[.int .i64 1, .int .i64 1, .int .i64 2, .int .i64 7, .int .i64 15] 99) = W := ⟨_, rfl⟩
  obtain ⟨G, hG⟩ : ∃ Q, v1.heap.size = Q := ⟨_, rfl⟩
  obtain ⟨E, hE⟩ : ∃ Q, v1.heap.size + 1 = Q := ⟨_, rfl⟩
  have HN : Hid (E = G + 1 ∧ hb0 < G ∧ w.heap.size ≤ hb0 ∧ u1.heap.size = G + 2) := Lib.hid (by rw [← hu]; omega)
  replace HB : Hid (Below w.heap.size w ((v1.alloc (.cells #[.int .i64 7, .int .i64 1, .int .i64 2, .int .i64 50, .int .i64 15] 230)).alloc (.cells #[.int .i64 1, .int .i64 1, .int .i64 2, .int .i64 7, .int .i64 15] 99))) := Lib.hid (HB.out.trans (hbu.mono HB.out.size))
  rw [hu] at hs he hrw HB ⊢
  rw [hE] at he ⊢
  rw [hG] at hs ⊢
  have HS := Lib.hid hs
  have HE := Lib.hid he
  have HRU := Lib.hid hrw
  have hbase : w.heap.size ≤ u1.heap.size := HB.out.size
  clear hu hG hE hs he hrw hbu hne hbs hsz x0 x1 x2 x3 x4 x5 x6 x7 x8 x9 xl HRW1
  have e0 : u1.cell? ⟨E, 0, none⟩ = some (.int .i64 1) := HE.out.cell 0
  have e1 : u1.cell? ⟨E, 1, none⟩ = some (.int .i64 1) := HE.out.cell 1
  have e2 : u1.cell? ⟨E, 2, none⟩ = some (.int .i64 2) := HE.out.cell 2
  have e3 : u1.cell? ⟨E, 3, none⟩ = some (.int .i64 7) := HE.out.cell 3
  have e4 : u1.cell? ⟨E, 4, none⟩ = some (.int .i64 15) := HE.out.cell 4
  have el := HE.out.lt
  go_upto_region 10 with ((at_builtin; refine wpList_append_lies _ rfl _ _ 137 rfl w.heap.size 99 i0 _ 5 40 Tryz.underlying137 HI.out HZ0.out HZ1.out HZ2.out rfl (by omega) (.slice (some ⟨hb0, 0, none⟩) 2 cb0) 2 (enF [0, 2]) rfl (HRU.out.alloc _) ⟨u1.heap.size, 0, none⟩ 1 1 [.int .i64 1, .int .i64 1, .int .i64 2, .int .i64 7, .int .i64 15] rfl rfl (World.news_of_block (cs := #[.int .i64 1, .int .i64 1, .int .i64 2, .int .i64 7, .int .i64 15]) (t := 99) (fr := (0, 0)) (Has.new u1 _ _)) (by simp [Value.oneCell']) (by omega) (by unfold maxLen; omega) (by omega) (by simp; omega) (u1.heap.size + 1) (by simp) ?_; intro ha1 ca1 ua1 hown hgrow hat hlt4))
  have hla : Leaves (fun k => k = hb0) u1 ua1 := ((Leaves.refl (fun k => k = hb0) u1).alloc _).grown hgrow (fun k hk => .inl (Option.some.inj hk).symm)
  replace HS := Lib.hid (HS.out.leaves hla (by have := HN.out; show ¬ G = hb0; omega))
  replace HE := Lib.hid (HE.out.leaves hla (by have := HN.out; show ¬ E = hb0; omega))
  replace HB := Lib.hid (HB.out.trans (hla.new_or (by have := HN.out; omega) HB.out.size))
  have HRA : Hid (ua1.ownsRow w.heap.size 99 5 (.slice (some ⟨ha1, 0, none⟩) 3 ca1) 3 (enF [0, 2, 1])) := Lib.hid hown
  have HN1 : Hid (w.heap.size ≤ G ∧ E = G + 1 ∧ ha1 ≠ G ∧ ha1 ≠ E ∧ w.heap.size ≤ ha1 ∧ G + 2 ≤ ua1.heap.size) := Lib.hid (by have := HN.out; have := hla.size; have := (own_is hown).2.1; have : ha1 = hb0 ∨ ha1 = u1.heap.size + 1 := hat.imp (fun h => (Option.some.inj h).symm) id; omega)
  clear hla hown hgrow hat hlt4 HRU HN hbase e0 e1 e2 e3 e4 el
  have s3 : ua1.cell? ⟨G, 3, none⟩ = some (.int .i64 50) := HS.out.cell 3
  have s4 : ua1.cell? ⟨G, 4, none⟩ = some (.int .i64 15) := HS.out.cell 4
  have e0 : ua1.cell? ⟨E, 0, none⟩ = some (.int .i64 1) := HE.out.cell 0
  have e4 : ua1.cell? ⟨E, 4, none⟩ = some (.int .i64 15) := HE.out.cell 4
  have ef0 : ua1.frozen? ⟨E, 0, none⟩ = false := HE.out.free _
  have ef4 : ua1.frozen? ⟨E, 4, none⟩ = false := HE.out.free _
  have el := HE.out.lt
  have gl := HS.out.lt
  have hge : G ≠ E := by have := HN1.out; omega
  have hw : IntKind.i64.wrap (50 - 15) = 35 := by decide
  go_region
  have hlb : Leaves (fun k => k = E) ua1 (((ua1.setCell ⟨E, 0, none⟩ (.int .i64 2)).setCell ⟨E, 4, none⟩ (.int .i64 35)).drew) := (((Leaves.refl (fun k => k = E) _).at _ _).at _ _).drew
  have hE2 : Has (((ua1.setCell ⟨E, 0, none⟩ (.int .i64 2)).setCell ⟨E, 4, none⟩ (.int .i64 35)).drew) E #[.int .i64 2, .int .i64 1, .int .i64 2, .int .i64 7, .int .i64 35] 99 := has_put_eq (has_put_eq HE.out rfl) rfl
  obtain ⟨ub1, hu⟩ : ∃ W, ((ua1.setCell ⟨E, 0, none⟩ (.int .i64 2)).setCell ⟨E, 4, none⟩ (.int .i64 35)).drew = W := ⟨_, rfl⟩
  rw [hu] at hlb hE2 ⊢
  have HE2 := Lib.hid hE2
  replace HB := Lib.hid (HB.out.trans (hlb.new_or (by have := HN1.out; omega) HB.out.size))
  have HRB := Lib.hid (own_row_leaves HRA.out hlb (by have := HN1.out; omega))
  have HN2 : Hid (E = G + 1 ∧ ha1 ≠ E ∧ w.heap.size ≤ ha1 ∧ G + 2 ≤ ub1.heap.size) := Lib.hid (by have := HN1.out; have := hlb.size; omega)
  have hbase : w.heap.size ≤ ub1.heap.size := HB.out.size
  clear hu hlb hE2 HRA HN1 s3 s4 e0 e4 ef0 ef4 el gl hge hw HS HE
  have e0 : ub1.cell? ⟨E, 0, none⟩ = some (.int .i64 2) := HE2.out.cell 0
  have e1 : ub1.cell? ⟨E, 1, none⟩ = some (.int .i64 1) := HE2.out.cell 1
  have e2 : ub1.cell? ⟨E, 2, none⟩ = some (.int .i64 2) := HE2.out.cell 2
  have e3 : ub1.cell? ⟨E, 3, none⟩ = some (.int .i64 7) := HE2.out.cell 3
  have e4 : ub1.cell? ⟨E, 4, none⟩ = some (.int .i64 35) := HE2.out.cell 4
  have el := HE2.out.lt
  go_upto_region 12 with ((at_builtin; refine wpList_append_lies _ rfl _ _ 137 rfl w.heap.size 99 i0 _ 5 40 Tryz.underlying137 HI.out HZ0.out HZ1.out HZ2.out rfl (by omega) (.slice (some ⟨ha1, 0, none⟩) 3 ca1) 3 (enF [0, 2, 1]) rfl (HRB.out.alloc _) ⟨ub1.heap.size, 0, none⟩ 1 1 [.int .i64 2, .int .i64 1, .int .i64 2, .int .i64 7, .int .i64 35] rfl rfl (World.news_of_block (cs := #[.int .i64 2, .int .i64 1, .int .i64 2, .int .i64 7, .int .i64 35]) (t := 99) (fr := (0, 0)) (Has.new ub1 _ _)) (by simp [Value.oneCell']) (by omega) (by unfold maxLen; omega) (by omega) (by simp; omega) (ub1.heap.size + 1) (by simp) ?_; intro hb1 cb1 v2 hown hgrow hat hlt4))
  have hla : Leaves (fun k => k = ha1) ub1 v2 := ((Leaves.refl (fun k => k = ha1) ub1).alloc _).grown hgrow (fun k hk => .inl (Option.some.inj hk).symm)
  replace HB := Lib.hid (HB.out.trans (hla.new_or (by have := HN2.out; omega) HB.out.size))
  have HRW2 : Hid (v2.ownsRow w.heap.size 99 5 (.slice (some ⟨hb1, 0, none⟩) 4 cb1) 4 (enF [0, 2, 1, 3])) := Lib.hid hown
  clear hla hown hgrow hat hlt4 HRB HN2 hbase e0 e1 e2 e3 e4 el HE2
  go_wp2_with fail
  rw [rounds_succ]
  have HEA : Hid (EnAt v2 hb1 [0, 2, 1, 3]) := Lib.hid (own_at (l := [0, 2, 1, 3]) HRW2.out (fun j hj => by
    have hj : j < 20 := hj
    match j, hj with
    | 0, _ | 1, _ | 2, _ | 3, _ | 4, _ | 5, _ | 6, _ | 7, _ | 8, _ | 9, _ | 10, _ | 11, _ | 12, _ | 13, _ | 14, _ | 15, _ | 16, _ | 17, _ | 18, _ | 19, _ => rfl
    | n + 20, h => exact absurd h (by omega)))
  have CC := Lib.hid (collect_mix hb1 cb1 v2 HEA.out)
  clear HRW2
  go_wp2_with fail
  refine CC.out.mono ?_
  rintro e w9 ⟨Z, cz, hcz, rfl, hz, hzb, hb⟩
  have HZ : Hid (CollPost w (.returned (.tuple #[.slice (some ⟨Z, 0, none⟩) 4 cz, .int .i64 0])) w9) := Lib.hid ⟨Z, cz, hcz, rfl, hz, by have := HB.out.size; omega, HB.out.trans (hb.mono HB.out.size)⟩
  clear hcz hz hzb hb CC
  go_wp2_with fail
  go_ret2
  exact HZ.out
end Go.Proofs.YtbeikfopneeodaaGreat
