/- The deck's write-backs (printed by wip/gen/wdf.py). -/
import Derived.Test.YtlbkhhbbkedhkaaGreatDoorMa19
namespace Go.Proofs.YtlbkhhbbkedhkaaGreatDoor
open Go.RowKit
set_option linter.unusedVariables false
set_option linter.unusedSimpArgs false

section
variable {P : Program} {ops : Array Oper} {Q : Exit → Act → World → Prop} {md : Region.Mode} {S S' : World → Prop}
/-- a stronger condition may be taken on -/
theorem wpAnyH_to (hS : ∀ w, S' w → S w) : ∀ (fuel : Nat) (listed : Array Bool) (a : Act) (w : World), wpAnyH P md ops Q S' fuel listed a w → wpAnyH P md ops Q S fuel listed a w
  | 0, _, _, _, h => h
  | fuel + 1, _, _, _, h => ⟨h.1, fun i hi => wpOp_mono (fun a' w' h' => ⟨hS _ h'.1, wpAnyH_to hS fuel _ a' w' h'.2⟩) (h.2 i hi)⟩
theorem wpAnyH_up {fuel : Nat} {listed : Array Bool} {a : Act} {w : World} (hS : ∀ w, S' w → S w) (h0 : S' w) (h : wpAnyH P md ops Q S' fuel listed a w) : wpAnyH P md ops Q S fuel listed a w := wpAnyH_to hS _ _ _ _ h
end

/-- the names of the write-backs -/
def bn (j : Nat) : ByteArray := if j = 0 then { data := #[119] } else if j = 1 then { data := #[120] } else { data := #[121] }
theorem bn_name {j : Nat} (h : j < 3) : nameB (bn j) = true := by
  match j, h with
  | 0, _ => decide +kernel
  | 1, _ => decide +kernel
  | 2, _ => decide +kernel
theorem strs_kept {b : Nat} {w : World} {t : TypeId} (hb : b < w.heap.size) : ∀ V, Keeps b (w.alloc (.cells #[.string { data := #[119] }, .string { data := #[120] }, .string { data := #[121] }] t)) V → ∀ j, j < 3 → V.cell? ⟨w.heap.size, j, none⟩ = some (.string (bn j)) := fun V hk j hj => by
  rw [((Has.new w #[.string { data := #[119] }, .string { data := #[120] }, .string { data := #[121] }] t).keeps hk (by omega)).cell]
  match j, hj with
  | 0, _ => rfl
  | 1, _ => rfl
  | 2, _ => rfl
theorem wb_one {s : ByteArray} {y0 y1 y2 y3 y4 y5 : Value} {A : Option Addr} {n c : Nat} (h : ([y0, y1, y2, y3, y4, y5] : List Value).all (·.oneCell') = true) : ∀ u ∈ [.string s, y0, y1, y2, y3, y4, y5, .slice A n c], u.oneCell' = true := by
  intro u hu
  rcases List.mem_cons.1 hu with rfl | hu
  · rfl
  · rcases List.mem_append.1 (show u ∈ [y0, y1, y2, y3, y4, y5] ++ [.slice A n c] from hu) with h1 | h1
    · exact List.all_eq_true.1 h _ h1
    · rw [List.mem_singleton.1 h1]; rfl
/-- how many write-backs there may be in one of a depth -/
def cntW : Nat → Nat
  | 0 => 1
  | d + 1 => 1 + 2 * cntW d
/-- a write-back within which there are d more levels at most -/
def wbQ (d : Nat) (u : Wb) : Prop := u.all ∧ u.count ≤ cntW d ∧ u.depth ≤ d + 1
def wbP (d : Nat) (S : Nat → Prop) (w : World) (x : Wb × WA) : Prop := WbIn S w x.1 x.2 ∧ wbQ d x.1
theorem wbP_moves (d : Nat) : Moves (wbP d) := fun S T w w' x h hk hS => ⟨WbIn.keep hk hS _ _ h.1, h.2⟩
abbrev wbC (x : Wb × WA) (j : Nat) : Value := x.1.cell x.2 j
def MadeB (d b : Nat) (w : World) (r : Ending) (w' : World) : Prop := ∃ (A : Option Addr) (n c : Nat) (us : Nat → Wb), r = .returned (.slice A n c) ∧ n ≤ 2 ∧ (d = 0 → n = 0) ∧ WbsIn (fun i => w.heap.size ≤ i ∧ i < w'.heap.size) w' A n us ∧ (∀ i, i < n → wbQ (d - 1) (us i)) ∧ Keeps b w w' ∧ IsDeck w' b
theorem row_end {α : Type} {inP : (Nat → Prop) → World → α → Prop} (hP : Moves inP) {wr : World} {B H s m cv : Nat} {Av : Option Addr} {et : TypeId} {cf : α → Nat → Value} {zs : Nat → α}
    (hA : ∀ i, i < m → inP (aS B H Av wr) wr (zs i)) (ho : wr.ownsRow (H + 1) et s (.slice Av m cv) m (rowL (m * s) (rowF s cf zs))) (hB : B ≤ H) :
    m ≤ cv ∧ CellsS (fun i => B ≤ i ∧ i < wr.heap.size) wr Av (m * s) (rowF s cf zs) ∧ ∀ i, i < m → inP (fun i => B ≤ i ∧ i < wr.heap.size) wr (zs i) := by
  have hx : ∀ i, i < m → inP (fun i => B ≤ i ∧ i < wr.heap.size) wr (zs i) := fun i hi => hP _ _ _ _ _ (hA i hi) (fun _ _ _ => rfl) fun c hc => ⟨by have := hc.1; omega, hc.2.2.1⟩
  rcases Own.made (F := rowF s cf zs) ho (fun j hj => rowL_get _ _ j hj) with ⟨h0, h1⟩ | ⟨g, cap, e, ho'⟩
  · injection h0 with h0 _ h2
    exact ⟨by omega, by rw [h1, Nat.zero_mul]; exact CellsS.zero, hx⟩
  · injection e with e1 e2 e3
    subst e1
    subst e3
    have hb := ho'.base_le
    exact ⟨ho'.len.1, ho'.cellsS ⟨by omega, ho'.lt⟩, hx⟩

theorem wb8_get {e : Ex} {a : EA} {s : ByteArray} {y0 y1 y2 y3 y4 y5 : Value} {A : Option Addr} {n c : Nat} {us : Nat → Wb} (h : e.cells a = #[y0, y1, y2, y3, y4, y5]) : ∀ j, j < 8 → ([.string s, y0, y1, y2, y3, y4, y5, .slice A n c] : List Value)[j]? = some (wbC (Wb.mk s e n us, ⟨a, A, c⟩) j) := fun j hj => by
  have := six_get h
  match j, hj with
  | 0, _ => rfl
  | 1, _ => exact this 0 (by omega)
  | 2, _ => exact this 1 (by omega)
  | 3, _ => exact this 2 (by omega)
  | 4, _ => exact this 3 (by omega)
  | 5, _ => exact this 4 (by omega)
  | 6, _ => exact this 5 (by omega)
  | 7, _ => rfl
theorem wb_fresh {b B n c : Nat} {s : ByteArray} {wE wB w6 : World} {e : Ex} {a : EA} {A : Option Addr} {us : Nat → Wb} (hb : b < B) (hin : ExIn (fun i => B ≤ i ∧ i < wE.heap.size) wE e a) (hk1 : Keeps b wE w6) (hw : WbsIn (fun i => B ≤ i ∧ i < wB.heap.size) wB A n us) (hk2 : Keeps b wB w6) (hn : n ≤ big) :
    WbIn (fun i => B ≤ i ∧ i < w6.heap.size) w6 (.mk s e n us) ⟨a, A, c⟩ := by
  obtain ⟨_, P, h1, h2⟩ := hw.keep (T := fun i => B ≤ i ∧ i < w6.heap.size) (w' := w6) (fun i o hi => World.cell?_of_block (w := wB) (hk2.block i hi.2 (by omega))) (fun i hi => ⟨hi.1, by have := hk2.size; omega⟩)
  exact ⟨hn, ExIn.keep (fun i o hi => World.cell?_of_block (w := wE) (hk1.block i hi.2 (by omega))) (fun i hi => ⟨hi.1, by have := hk1.size; omega⟩) _ _ hin, P, h1, h2⟩
theorem wb_q {d j n : Nat} {e : Ex} {us : Nat → Wb} (hj : j < 3) (hz : e.size ≤ 4 ∧ e.depth ≤ 2 ∧ e.all nodeQ) (hw : n ≤ 2 ∧ (d = 0 → n = 0) ∧ ∀ i, i < n → wbQ (d - 1) (us i)) : wbQ d (.mk (bn j) e n us) := by
  have h1 : sumN (fun i => (us i).count) n ≤ n * cntW (d - 1) := sumN_top fun i hi => (hw.2.2 i hi).2.1
  have h2 : maxN (fun i => (us i).depth) n ≤ d := maxN_lub fun i hi => by
    have h := (hw.2.2 i hi).2.2
    have h0 := hw.2.1
    omega
  refine ⟨⟨bn_name hj, ⟨by omega, by omega, hz.2.2⟩, fun i hi => (hw.2.2 i hi).1⟩, ?_, ?_⟩
  · show 1 + sumN (fun i => (us i).count) n ≤ cntW d
    cases d with
    | zero => rw [hw.2.1 rfl]; exact Nat.le_refl _
    | succ d =>
      have h3 := Nat.mul_le_mul_right (cntW d) hw.1
      exact Nat.add_le_add_left (Nat.le_trans h1 h3) 1
  · show 1 + maxN (fun i => (us i).depth) n ≤ d + 1
    omega

set_option maxRecDepth 100000 in
set_option maxHeartbeats 16000000 in
theorem backs_step (b : Nat) (A An : Option Addr) (n c nn cn : Nat) (ats : Nat → Att) (f : Nat → ByteArray) (d : Nat) (hd2 : d ≤ 2)
    (ih : ∀ d', d' < d → ∀ w : World, IsDeck w b → SchIn (off b w) w A n ats → NmIn (off b w) w An nn f → Calls Tryz.prog 53 #[.pointer (some ⟨b, 0, none⟩), .agg #[.slice A n c], .slice An nn cn, .int .i64 d'] w (MadeB d' b w))
    (w : World) (hd : IsDeck w b) (hs : SchIn (off b w) w A n ats) (hnm : NmIn (off b w) w An nn f) :
    Calls Tryz.prog 53 #[.pointer (some ⟨b, 0, none⟩), .agg #[.slice A n c], .slice An nn cn, .int .i64 d] w (MadeB d b w) := by
  have HIH : Hid (0 < d → ∀ W, IsDeck W b → Keeps b w W → Calls Tryz.prog 53 #[.pointer (some ⟨b, 0, none⟩), .agg #[.slice A n c], .slice An nn cn, .int .i64 ((d - 1 : Nat) : Int)] W (MadeB (d - 1) b W)) := Lib.hid fun h W hd' hk => ih _ (by omega) W hd' (hs.keeps hk) (hnm.keeps hk)
  have HX2 : Hid (∀ W, IsDeck W b → Keeps b w W → Calls Tryz.prog 52 #[.pointer (some ⟨b, 0, none⟩), .agg #[.slice A n c], .slice An nn cn, .int .i64 2] W (ExprP 4 2 b W)) := Lib.hid fun W hd' hk => expr_any b A An n c nn cn ats f 2 W (by omega) (by omega) hd' (hs.keeps hk) (hnm.keeps hk)
  have HD0 := Lib.hid hd
  have hb := hd.lt
  have hn1 := hs.1
  have hnn := hnm.1
  clear hd hs hnm ih
  obtain ⟨G, hG⟩ : ∃ G, w.heap.size = G := ⟨_, rfl⟩
  have HGE := Lib.hid hG
  have hwd : 0 < d → IntKind.i64.wrap ((d : Int) - 1) = ((d - 1 : Nat) : Int) := fun h => by rw [IntKind.wrap_i64]; omega
  go_enter Tryz.func53, Tryz.ntmps53
  go_upto_region 1 with (fail)
  have HK : Hid (Keeps b w (w.alloc (.cells #[.slice A n c] 56))) := Lib.hid ((Keeps.refl b w).alloc _)
  have HE := Lib.hid (Has.new w #[.slice A n c] 56)
  have HD : Hid (IsDeck (w.alloc (.cells #[.slice A n c] 56)) b) := Lib.hid (HD0.out.alloc _)
  obtain ⟨W, hW⟩ : ∃ W, w.alloc (.cells #[.slice A n c] 56) = W := ⟨_, rfl⟩
  rw [hW] at HE HK HD ⊢
  rw [hG] at HE hb
  try rw [hG]
  clear hW hG HD0
  have hGw : w.heap.size = G := HGE.out
  have HFIN : Hid (∀ (m : Nat) (Av : Option Addr) (cv : Nat) (zs : Nat → Wb × WA) (wr : World), m ≤ 2 → (d = 0 → m = 0) → wr.ownsRow (G + 1) 97 8 (.slice Av m cv) m (rowL (m * 8) (rowF 8 wbC zs)) → (∀ i, i < m → wbP (d - 1) (aS G G Av wr) wr (zs i)) → Keeps b w wr → IsDeck wr b → MadeB d b w (.returned (.slice Av m cv)) wr) := Lib.hid fun m Av cv zs wr h1 h2 h3 h4 h5 h6 => by
    obtain ⟨u0, u1, u2⟩ := row_end (wbP_moves (d - 1)) h4 h3 (Nat.le_refl G)
    subst hGw
    exact ⟨Av, m, cv, fun i => (zs i).1, rfl, h1, h2, ⟨by unfold big; omega, fun i => (zs i).2, u1, fun i hi => (u2 i hi).1⟩, fun i hi => (u2 i hi).2, h5, h6⟩
  go_wp2_with fail
  refine (next_any b 3 _ HD.out (by omega) (by omega)).mono ?_
  rintro e w2 ⟨v, rfl, v0, v1, hk2, hd2⟩
  replace HK := Lib.hid (HK.out.trans hk2)
  replace HD := Lib.hid hd2
  replace HE := Lib.hid (HE.out.keeps hk2 (by omega))
  clear hk2 hd2
  obtain ⟨K0, hK0⟩ : ∃ K : Nat, v = K := ⟨v.toNat, by omega⟩
  subst hK0
  have hK2 : K0 ≤ 2 := by omega
  clear v0 v1
  obtain ⟨i0, hi0, hz0, hz1, hz2⟩ := info_parts wb_all
  have HI := Lib.hid hi0
  have HZ0 := Lib.hid hz0
  have HZ1 := Lib.hid hz1
  have HZ2 := Lib.hid hz2
  clear hi0 hz0 hz1 hz2
  go_wp2_with fail
  go_loopw [9, 10] (fun l kx wr => ∃ (m k : Nat) (Av : Option Addr) (cv : Nat) (zs : Nat → Wb × WA), m + k = K0 ∧ (d = 0 → m = 0) ∧ l = .slice Av m cv ∧ kx = .int .i64 k ∧ Hid (wr.ownsRow (G + 1) 97 8 (.slice Av m cv) m (rowL (m * 8) (rowF 8 wbC zs))) ∧ Hid (∀ i, i < m → wbP (d - 1) (aS G G Av wr) wr (zs i)) ∧ Hid (Has wr G #[.slice A n c] 56) ∧ Hid (Keeps b w wr) ∧ Hid (IsDeck wr b)) (fun _ kx _ => (intOf kx).toNat)
  case atStart => exact ⟨0, K0, none, 0, fun _ => (.bot, ⟨⟨none, 0, none, 0⟩, none, 0⟩), by omega, fun _ => rfl, rfl, rfl, Lib.hid ⟨rfl, .inl ⟨rfl, rfl⟩⟩, Lib.hid (fun i hi => by omega), HE, HK, HD⟩
  case round =>
    clear HE HK HD
    obtain ⟨m, k, Av, cv, zs, hmk, hm0, rfl, rfl, HO, HA, HE, HK, HD⟩ := hrel
    have hsG : G < wr.heap.size := HE.out.lt
    by_cases hk0 : 0 < k
    · have hk1 : (0 : Int) < k := by omega
      have hwk : IntKind.i64.wrap ((k : Int) - 1) = ((k - 1 : Nat) : Int) := by rw [IntKind.wrap_i64]; omega
      by_cases hd0 : 0 < d
      · have hd1 : (0 : Int) < d := by omega
        replace hwd := hwd hd0
        replace HIH := Lib.hid (HIH.out hd0)
        have HSG : Hid (∀ V, Keeps b wr V → V.cell? ⟨G, 0, none⟩ = some (.slice A n c)) := Lib.hid fun V hk => by rw [(HE.out.keeps hk (by omega)).cell]; rfl
        have HBB : Hid (Keeps b wr wr.drew) := Lib.hid (Keeps.refl _ _).drew
        have HDD : Hid (IsDeck wr.drew b) := Lib.hid HD.out.drew
        go_upto_region 5 with (fail)
        refine wp_region_held_drew (S := fun wx => wx.cell? ⟨G, 0, none⟩ = some (.slice A n c)) (by kernel_rfl) (HSG.out _ HBB.out) (fun hHeld => ?_)
        refine wpAnyH_take (i := 0) (v := ?v1) rfl (by kernel_rfl) (by kernel_rfl) (by kernel_rfl) (fun _ _ _ h => h) (Or.inl ⟨by rfl, ?hy1⟩) (by assumption) ?rest1
        case hy1 => (intro wx hSw; (try dsimp only at hSw); go_simp; try with_reducible rfl)
        try simp only [Act.put, List.setIfInBounds_toArray, List.set_cons_zero, List.set_cons_succ]
        refine wpAnyH_take (i := 2) (v := ?v2) rfl (by kernel_rfl) (by kernel_rfl) (by kernel_rfl) (fun _ _ _ h => h) (Or.inl ⟨by rfl, ?hy2⟩) (by assumption) ?rest2
        case hy2 => (intro wx hSw; (try dsimp only at hSw); go_simp; try with_reducible rfl)
        try simp only [Act.put, List.setIfInBounds_toArray, List.set_cons_zero, List.set_cons_succ]
        refine wpAnyH_take (i := 6) (v := ?v3) rfl (by kernel_rfl) (by kernel_rfl) (by kernel_rfl) (fun _ _ _ h => h) (Or.inl ⟨by rfl, ?hy3⟩) (by assumption) ?rest3
        case hy3 => (intro wx hSw; (try dsimp only at hSw); go_simp; try with_reducible rfl)
        try simp only [Act.put, List.setIfInBounds_toArray, List.set_cons_zero, List.set_cons_succ]
        refine wpAnyH_take (i := 7) (v := ?v4) rfl (by kernel_rfl) (by kernel_rfl) (by kernel_rfl) (fun _ _ _ h => h) (Or.inl ⟨by rfl, ?hy4⟩) (by assumption) ?rest4
        case hy4 => (intro wx hSw; (try dsimp only at hSw); go_simp; try with_reducible rfl)
        try simp only [Act.put, List.setIfInBounds_toArray, List.set_cons_zero, List.set_cons_succ]
        refine wpAnyH_take (i := 8) (v := ?v5) rfl (by kernel_rfl) (by kernel_rfl) (by kernel_rfl) (fun _ _ _ h => h) (Or.inl ⟨by rfl, ?hy5⟩) (by assumption) ?rest5
        case hy5 => (intro wx hSw; (try dsimp only at hSw); go_simp; try with_reducible rfl)
        try simp only [Act.put, List.setIfInBounds_toArray, List.set_cons_zero, List.set_cons_succ]
        refine wpAnyH_take (i := 10) (v := ?v6) rfl (by kernel_rfl) (by kernel_rfl) (by kernel_rfl) (fun _ _ _ h => h) (Or.inl ⟨by rfl, ?hy6⟩) (by assumption) ?rest6
        case hy6 => (intro wx hSw; (try dsimp only at hSw); go_simp; try with_reducible rfl)
        try simp only [Act.put, List.setIfInBounds_toArray, List.set_cons_zero, List.set_cons_succ]
        refine wpAnyH_take (i := 11) (v := ?v7) rfl (by kernel_rfl) (by kernel_rfl) (by kernel_rfl) (fun _ _ _ h => h) (Or.inl ⟨by rfl, ?hy7⟩) (by assumption) ?rest7
        case hy7 => (intro wx hSw; (try dsimp only at hSw); go_simp; try with_reducible rfl)
        try simp only [Act.put, List.setIfInBounds_toArray, List.set_cons_zero, List.set_cons_succ]
        refine wpAnyH_take (i := 12) (v := ?v8) rfl (by kernel_rfl) (by kernel_rfl) (by kernel_rfl) (fun _ _ _ h => h) (Or.inl ⟨by rfl, ?hy8⟩) (by assumption) ?rest8
        case hy8 => (intro wx hSw; (try dsimp only at hSw); go_simp; try with_reducible rfl)
        try simp only [Act.put, List.setIfInBounds_toArray, List.set_cons_zero, List.set_cons_succ]
        refine wpAnyH_take (i := 13) (v := ?v9) rfl (by kernel_rfl) (by kernel_rfl) (by kernel_rfl) (fun _ _ _ h => h) (Or.inl ⟨by rfl, ?hy9⟩) (by assumption) ?rest9
        case hy9 => (intro wx hSw; (try dsimp only at hSw); go_simp; try with_reducible rfl)
        try simp only [Act.put, List.setIfInBounds_toArray, List.set_cons_zero, List.set_cons_succ]
        refine wpAnyH_take (i := 14) (v := ?v10) rfl (by kernel_rfl) (by kernel_rfl) (by kernel_rfl) (fun _ _ _ h => h) (Or.inl ⟨by rfl, ?hy10⟩) (by assumption) ?rest10
        case hy10 => (intro wx hSw; (try dsimp only at hSw); go_simp; try with_reducible rfl)
        try simp only [Act.put, List.setIfInBounds_toArray, List.set_cons_zero, List.set_cons_succ]
        refine wpAnyH_ready (rs := [1, 3]) (by kernel_rfl) (by simp) ?_
        refine AllReadyH.cons rfl (fun K hK => ?_) ?_
        · go_simp
          have hq0 : wr.heap.size ≤ wr.heap.size := HBB.out.size
          have hq1 : (wr.drew.alloc (.cells #[.string { data := #[119] }, .string { data := #[120] }, .string { data := #[121] }] 9)).heap.size = wr.heap.size + 1 := by simp
          have HQS : Hid (∀ V, Keeps b (wr.drew.alloc (.cells #[.string { data := #[119] }, .string { data := #[120] }, .string { data := #[121] }] 9)) V → ∀ j, j < 3 → V.cell? ⟨wr.heap.size, j, none⟩ = some (.string (bn j))) := Lib.hid (strs_kept (by have := HBB.out.size; omega))
          have HQQ : Hid (Keeps b (wr.drew.alloc (.cells #[.string { data := #[119] }, .string { data := #[120] }, .string { data := #[121] }] 9)) (wr.drew.alloc (.cells #[.string { data := #[119] }, .string { data := #[120] }, .string { data := #[121] }] 9))) := Lib.hid (Keeps.refl _ _)
          have hka : Keeps b wr.drew (wr.drew.alloc (.cells #[.string { data := #[119] }, .string { data := #[120] }, .string { data := #[121] }] 9)) := (Keeps.refl b _).alloc _
          replace HBB := Lib.hid (HBB.out.trans hka)
          replace HDD : Hid (IsDeck (wr.drew.alloc (.cells #[.string { data := #[119] }, .string { data := #[120] }, .string { data := #[121] }] 9)) b) := Lib.hid (HDD.out.alloc _)
          clear hka
          refine hK.out _ _ ?_ (fun hHeld => ?_)
          · exact HSG.out _ HBB.out
          clear hK K
          refine wpAnyH_up (S' := (fun wx => wx.cell? ⟨G, 0, none⟩ = some (.slice A n c) ∧ ∀ j, j < 3 → wx.cell? ⟨wr.heap.size, j, none⟩ = some (.string (bn j)))) (fun _ h => h.1) (by exact ⟨HSG.out _ HBB.out, HQS.out _ HQQ.out⟩) ?_
          have hHeld2 : (fun wx => wx.cell? ⟨G, 0, none⟩ = some (.slice A n c) ∧ ∀ j, j < 3 → wx.cell? ⟨wr.heap.size, j, none⟩ = some (.string (bn j))) (wr.drew.alloc (.cells #[.string { data := #[119] }, .string { data := #[120] }, .string { data := #[121] }] 9)) := by exact ⟨HSG.out _ HBB.out, HQS.out _ HQQ.out⟩
          dsimp only at hHeld2
          try simp only [Act.put, List.setIfInBounds_toArray, List.set_cons_zero, List.set_cons_succ]
          refine wpAnyH_ready (rs := [3]) (by kernel_rfl) (by simp) ?_
          refine AllReadyH.cons rfl (fun K hK => ?_) ?_
          · go_simp
            go_at_call 19
            refine (next_any b 3 _ HDD.out (by omega) (by omega)).mono ?_
            rintro r wN ⟨z, rfl, z0, z1, hk, hd⟩
            replace HBB := Lib.hid (HBB.out.trans hk)
            replace HQQ := Lib.hid (HQQ.out.trans hk)
            replace HDD := Lib.hid hd
            obtain ⟨j, hj⟩ : ∃ j : Nat, z = j := ⟨z.toNat, by omega⟩
            subst hj
            have hj3 : j < 3 := by omega
            have hj4 : (j : Int) < 3 := by omega
            clear z0 z1 hk hd
            go_simp
            refine hK.out _ _ ?_ (fun hHeld => ?_)
            · exact ⟨HSG.out _ HBB.out, HQS.out _ HQQ.out⟩
            clear hK K
            try simp only [Act.put, List.setIfInBounds_toArray, List.set_cons_zero, List.set_cons_succ]
            refine wpAnyH_take (i := 4) (v := ?v11) rfl (by kernel_rfl) (by kernel_rfl) (by kernel_rfl) (fun _ _ _ h => h) (Or.inl ⟨by rfl, ?hy11⟩) (by assumption) ?rest11
            case hy11 => (intro wx hSw; (try dsimp only at hSw); go_simp; try with_reducible rfl)
            try simp only [Act.put, List.setIfInBounds_toArray, List.set_cons_zero, List.set_cons_succ]
            refine wpAnyH_take (i := 5) (v := ?v12) rfl (by kernel_rfl) (by kernel_rfl) (by kernel_rfl) (fun _ _ _ h => h) (Or.inl ⟨by rfl, ?hy12⟩) (by assumption) ?rest12
            case hy12 => (intro wx hSw; (try dsimp only at hSw); go_simp; try with_reducible rfl)
            try simp only [Act.put, List.setIfInBounds_toArray, List.set_cons_zero, List.set_cons_succ]
            refine wpAnyH_ready (rs := [9]) (by kernel_rfl) (by simp) ?_
            refine AllReadyH.cons rfl (fun K hK => ?_) ?_
            · go_simp
              go_at_call 52
              refine (HX2.out _ HDD.out (HK.out.trans HBB.out)).mono ?_
              rintro r wE ⟨e, a, rfl, hin, hz, hk, hd⟩
              have hlo := HBB.out.size
              have HIN : Hid (ExIn (fun i => wr.heap.size ≤ i ∧ i < wE.heap.size) wE e a) := Lib.hid (ExIn.keep (fun _ _ _ => rfl) (fun i hi => ⟨by omega, hi.2⟩) _ _ hin)
              have HEZ := Lib.hid hz
              replace HBB := Lib.hid (HBB.out.trans hk)
              replace HQQ := Lib.hid (HQQ.out.trans hk)
              have HEE : Hid (Keeps b wE wE) := Lib.hid (Keeps.refl _ _)
              replace HDD := Lib.hid hd
              obtain ⟨y0, y1, y2, y3, y4, y5, hyy⟩ : ∃ y0 y1 y2 y3 y4 y5, e.cells a = #[y0, y1, y2, y3, y4, y5] := ⟨_, _, _, _, _, _, (Ex.cells_is e a).symm⟩
              have HY := Lib.hid hyy
              have HONE : Hid (([y0, y1, y2, y3, y4, y5] : List Value).all (·.oneCell') = true) := Lib.hid (by have := Ex.cells_one e a; rw [hyy] at this; exact this)
              rw [hyy]
              clear hin hz hk hd hyy hlo
              go_simp
              refine hK.out _ _ ?_ (fun hHeld => ?_)
              · exact ⟨HSG.out _ HBB.out, HQS.out _ HQQ.out⟩
              clear hK K
              try simp only [Act.put, List.setIfInBounds_toArray, List.set_cons_zero, List.set_cons_succ]
              refine wpAnyH_ready (rs := [15]) (by kernel_rfl) (by simp) ?_
              refine AllReadyH.cons rfl (fun K hK => ?_) ?_
              · go_simp
                go_at_call 53
                refine (HIH.out _ HDD.out (HK.out.trans HBB.out)).mono ?_
                rintro r wB ⟨A2, n2, c2, us2, rfl, hn2, hn0, hwi, hwq, hk, hd⟩
                have hlo := HBB.out.size
                have HWI : Hid (WbsIn (fun i => wr.heap.size ≤ i ∧ i < wB.heap.size) wB A2 n2 us2) := Lib.hid (hwi.keep (fun _ _ _ => rfl) (fun i hi => ⟨by omega, hi.2⟩))
                have HWZ : Hid (n2 ≤ 2 ∧ (d - 1 = 0 → n2 = 0) ∧ ∀ i, i < n2 → wbQ (d - 1 - 1) (us2 i)) := Lib.hid ⟨hn2, hn0, hwq⟩
                replace HBB := Lib.hid (HBB.out.trans hk)
                replace HQQ := Lib.hid (HQQ.out.trans hk)
                replace HEE := Lib.hid (HEE.out.trans hk)
                have HWW : Hid (Keeps b wB wB) := Lib.hid (Keeps.refl _ _)
                replace HDD := Lib.hid hd
                clear hwi hwq hk hd hlo hn2 hn0
                go_simp
                refine hK.out _ _ ?_ (fun hHeld => ?_)
                · exact ⟨HSG.out _ HBB.out, HQS.out _ HQQ.out⟩
                clear hK K
                try simp only [Act.put, List.setIfInBounds_toArray, List.set_cons_zero, List.set_cons_succ]
                refine wpAnyH_take (i := 16) (v := ?v13) rfl (by kernel_rfl) (by kernel_rfl) (by kernel_rfl) (fun _ _ _ h => h) (Or.inl ⟨by rfl, ?hy13⟩) (by assumption) ?rest13
                case hy13 => (intro wx hSw; (try dsimp only at hSw); go_simp; try with_reducible rfl)
                try simp only [Act.put, List.setIfInBounds_toArray, List.set_cons_zero, List.set_cons_succ]
                refine wpAnyH_ready (rs := [17]) (by kernel_rfl) (by simp) ?_
                refine AllReadyH.cons rfl (fun K hK => ?_) ?_
                · go_simp
                  have hka : Keeps b wB (wB.alloc (.cells #[.string (bn j), y0, y1, y2, y3, y4, y5, .slice A2 n2 c2] 97)) := (Keeps.refl b _).alloc _
                  have HBO := HBB
                  have HEO := HEE
                  have HWO := HWW
                  have HDO := HDD
                  replace HBB := Lib.hid (HBB.out.trans hka)
                  replace HQQ := Lib.hid (HQQ.out.trans hka)
                  replace HEE := Lib.hid (HEE.out.trans hka)
                  replace HWW := Lib.hid (HWW.out.trans hka)
                  replace HDD : Hid (IsDeck (wB.alloc (.cells #[.string (bn j), y0, y1, y2, y3, y4, y5, .slice A2 n2 c2] 97)) b) := Lib.hid (HDD.out.alloc _)
                  clear hka
                  refine hK.out _ _ ?_ (fun hHeld => ?_)
                  · exact ⟨HSG.out _ HBB.out, HQS.out _ HQQ.out⟩
                  clear hK K
                  try simp only [Act.put, List.setIfInBounds_toArray, List.set_cons_zero, List.set_cons_succ]
                  refine wpAnyH_ready (rs := [18]) (by kernel_rfl) (by simp) ?_
                  refine AllReadyH.cons rfl (fun K hK => ?_) ?_
                  · have HO6 : Hid (wB.ownsRow (G + 1) 97 8 (.slice Av m cv) m (rowL (m * 8) (rowF 8 wbC zs))) := Lib.hid (own_keeps HO.out HBO.out (by omega))
                    have hs6 := HBO.out.size
                    refine step_append_lies _ (by rfl) _ _ _ (by rfl) (G + 1) 97 i0 _ 8 128 Tryz.underlying44 HI.out HZ0.out HZ1.out HZ2.out rfl (by omega) (.slice Av m cv) m (rowL (m * 8) (rowF 8 wbC zs)) (by rfl) (HO6.out.alloc _) ⟨wB.heap.size, 0, none⟩ 1 1 [.string (bn j), y0, y1, y2, y3, y4, y5, .slice A2 n2 c2] (by rfl) (by rfl) (World.news_of_block (cs := #[.string (bn j), y0, y1, y2, y3, y4, y5, .slice A2 n2 c2]) (t := 97) (fr := (0, 0)) (heap_alloc_new wB _)) (wb_one HONE.out) (by omega) (by unfold maxLen; omega) (by omega) (by simp; omega) (wB.heap.size + 1) (by simp) ?_
                    intro gg cap wA hown hgrow hat hltA
                    have hbm : Below (G + 1) wB wA := Below.grown (Below.alloc (Below.refl (G + 1) _) (by omega) (.cells #[.string (bn j), y0, y1, y2, y3, y4, y5, .slice A2 n2 c2] 97)) hgrow (by simp; omega) (fun q hq => (own_lt HO6.out hq).2)
                    have HS8 : Hid (∀ o, wA.cell? ⟨G, o, none⟩ = wB.cell? ⟨G, o, none⟩) := Lib.hid fun o => hbm.cell (p := ⟨G, o, none⟩) (Nat.lt_succ_self G)
                    have HQ8 : Hid (∀ o, wA.cell? ⟨wr.heap.size, o, none⟩ = (wB.alloc (.cells #[.string (bn j), y0, y1, y2, y3, y4, y5, .slice A2 n2 c2] 97)).cell? ⟨wr.heap.size, o, none⟩) := Lib.hid fun o => World.cell?_of_block (a := ⟨wr.heap.size, o, none⟩) (hgrow.block wr.heap.size (by have := HQQ.out.size; omega) (fun e => by have := (own_lt HO.out e.symm).1; omega))
                    refine hK.out _ _ ?_ (fun hHeld => ?_)
                    · exact ⟨(HS8.out 0).trans (HSG.out _ HBO.out), fun o ho => (HQ8.out o).trans (HQS.out _ HQQ.out o ho)⟩
                    clear hK K
                    try simp only [Act.put, List.setIfInBounds_toArray, List.set_cons_zero, List.set_cons_succ]
                    refine wpAnyH_take (i := 19) (v := ?v14) rfl (by kernel_rfl) (by kernel_rfl) (by kernel_rfl) (fun _ _ _ h => h) (Or.inl ⟨by rfl, ?hy14⟩) (by assumption) ?rest14
                    case hy14 => (intro wx hSw; (try dsimp only at hSw); go_simp; try with_reducible rfl)
                    try simp only [Act.put, List.setIfInBounds_toArray, List.set_cons_zero, List.set_cons_succ]
                    refine wpAnyH_done (by kernel_rfl) ?_ _
                    rw [rowF_snoc (s := 8) (vs := [.string (bn j), y0, y1, y2, y3, y4, y5, .slice A2 n2 c2]) (cf := wbC) (x := (Wb.mk (bn j) e n2 us2, ⟨a, A2, c2⟩)) rfl (wb8_get HY.out)] at hown
                    have HO7 := Lib.hid hown
                    have HA7 := Lib.hid (row_next (w8 := wA) (x := (Wb.mk (bn j) e n2 us2, ⟨a, A2, c2⟩)) (wbP_moves (d - 1)) HA.out HBO.out (by omega) HO.out ⟨wb_fresh (by omega) HIN.out HEO.out HWI.out HWO.out (by have := HWZ.out.1; unfold big; omega), wb_q hj3 HEZ.out HWZ.out⟩ hgrow (by first | exact hat | (rw [hq1]; exact hat)) hsG hsG (fun _ _ _ => rfl) rfl)
                    have HE7 := Lib.hid ((HE.out.keeps HBO.out (by omega)).below hbm (Nat.lt_succ_self G))
                    have HK7 := Lib.hid ((HK.out.trans HBO.out).then hbm (by omega))
                    have HD7 := Lib.hid (HDO.out.below hbm (by omega))
                    clear hown hgrow hat hbm hltA HO HA HE HK HD HBB HDD HEE HWW HQQ HQS HBO HEO HWO HDO HIN HEZ HWI HWZ HY HONE HO6 HS8 HQ8 hHeld hq0 hq1 HSG
                    go_wp2_with fail
                    go_roundw
                    case rel => exact ⟨m + 1, k - 1, some ⟨gg, 0, none⟩, cap, _, by omega, fun h => by omega, by rfl, by rfl, HO7, HA7, HE7, HK7, HD7⟩
                    case measure => simp [intOf]; omega
                  exact AllReadyH.nil
                exact AllReadyH.nil
              exact AllReadyH.nil
            exact AllReadyH.nil
          exact AllReadyH.nil
        refine AllReadyH.cons rfl (fun K hK => ?_) ?_
        · go_simp
          go_at_call 19
          refine (next_any b 3 _ HDD.out (by omega) (by omega)).mono ?_
          rintro r wN ⟨z, rfl, z0, z1, hk, hd⟩
          replace HBB := Lib.hid (HBB.out.trans hk)
          replace HDD := Lib.hid hd
          obtain ⟨j, hj⟩ : ∃ j : Nat, z = j := ⟨z.toNat, by omega⟩
          subst hj
          have hj3 : j < 3 := by omega
          have hj4 : (j : Int) < 3 := by omega
          clear z0 z1 hk hd
          go_simp
          refine hK.out _ _ ?_ (fun hHeld => ?_)
          · exact HSG.out _ HBB.out
          clear hK K
          try simp only [Act.put, List.setIfInBounds_toArray, List.set_cons_zero, List.set_cons_succ]
          refine wpAnyH_ready (rs := [1, 9]) (by kernel_rfl) (by simp) ?_
          refine AllReadyH.cons rfl (fun K hK => ?_) ?_
          · go_simp
            have hq0 : wr.heap.size ≤ wN.heap.size := HBB.out.size
            have hq1 : (wN.alloc (.cells #[.string { data := #[119] }, .string { data := #[120] }, .string { data := #[121] }] 9)).heap.size = wN.heap.size + 1 := by simp
            have HQS : Hid (∀ V, Keeps b (wN.alloc (.cells #[.string { data := #[119] }, .string { data := #[120] }, .string { data := #[121] }] 9)) V → ∀ j, j < 3 → V.cell? ⟨wN.heap.size, j, none⟩ = some (.string (bn j))) := Lib.hid (strs_kept (by have := HBB.out.size; omega))
            have HQQ : Hid (Keeps b (wN.alloc (.cells #[.string { data := #[119] }, .string { data := #[120] }, .string { data := #[121] }] 9)) (wN.alloc (.cells #[.string { data := #[119] }, .string { data := #[120] }, .string { data := #[121] }] 9))) := Lib.hid (Keeps.refl _ _)
            have hka : Keeps b wN (wN.alloc (.cells #[.string { data := #[119] }, .string { data := #[120] }, .string { data := #[121] }] 9)) := (Keeps.refl b _).alloc _
            replace HBB := Lib.hid (HBB.out.trans hka)
            replace HDD : Hid (IsDeck (wN.alloc (.cells #[.string { data := #[119] }, .string { data := #[120] }, .string { data := #[121] }] 9)) b) := Lib.hid (HDD.out.alloc _)
            clear hka
            refine hK.out _ _ ?_ (fun hHeld => ?_)
            · exact HSG.out _ HBB.out
            clear hK K
            refine wpAnyH_up (S' := (fun wx => wx.cell? ⟨G, 0, none⟩ = some (.slice A n c) ∧ ∀ j, j < 3 → wx.cell? ⟨wN.heap.size, j, none⟩ = some (.string (bn j)))) (fun _ h => h.1) (by exact ⟨HSG.out _ HBB.out, HQS.out _ HQQ.out⟩) ?_
            have hHeld2 : (fun wx => wx.cell? ⟨G, 0, none⟩ = some (.slice A n c) ∧ ∀ j, j < 3 → wx.cell? ⟨wN.heap.size, j, none⟩ = some (.string (bn j))) (wN.alloc (.cells #[.string { data := #[119] }, .string { data := #[120] }, .string { data := #[121] }] 9)) := by exact ⟨HSG.out _ HBB.out, HQS.out _ HQQ.out⟩
            dsimp only at hHeld2
            try simp only [Act.put, List.setIfInBounds_toArray, List.set_cons_zero, List.set_cons_succ]
            refine wpAnyH_take (i := 4) (v := ?v15) rfl (by kernel_rfl) (by kernel_rfl) (by kernel_rfl) (fun _ _ _ h => h) (Or.inl ⟨by rfl, ?hy15⟩) (by assumption) ?rest15
            case hy15 => (intro wx hSw; (try dsimp only at hSw); go_simp; try with_reducible rfl)
            try simp only [Act.put, List.setIfInBounds_toArray, List.set_cons_zero, List.set_cons_succ]
            refine wpAnyH_take (i := 5) (v := ?v16) rfl (by kernel_rfl) (by kernel_rfl) (by kernel_rfl) (fun _ _ _ h => h) (Or.inl ⟨by rfl, ?hy16⟩) (by assumption) ?rest16
            case hy16 => (intro wx hSw; (try dsimp only at hSw); go_simp; try with_reducible rfl)
            try simp only [Act.put, List.setIfInBounds_toArray, List.set_cons_zero, List.set_cons_succ]
            refine wpAnyH_ready (rs := [9]) (by kernel_rfl) (by simp) ?_
            refine AllReadyH.cons rfl (fun K hK => ?_) ?_
            · go_simp
              go_at_call 52
              refine (HX2.out _ HDD.out (HK.out.trans HBB.out)).mono ?_
              rintro r wE ⟨e, a, rfl, hin, hz, hk, hd⟩
              have hlo := HBB.out.size
              have HIN : Hid (ExIn (fun i => wr.heap.size ≤ i ∧ i < wE.heap.size) wE e a) := Lib.hid (ExIn.keep (fun _ _ _ => rfl) (fun i hi => ⟨by omega, hi.2⟩) _ _ hin)
              have HEZ := Lib.hid hz
              replace HBB := Lib.hid (HBB.out.trans hk)
              replace HQQ := Lib.hid (HQQ.out.trans hk)
              have HEE : Hid (Keeps b wE wE) := Lib.hid (Keeps.refl _ _)
              replace HDD := Lib.hid hd
              obtain ⟨y0, y1, y2, y3, y4, y5, hyy⟩ : ∃ y0 y1 y2 y3 y4 y5, e.cells a = #[y0, y1, y2, y3, y4, y5] := ⟨_, _, _, _, _, _, (Ex.cells_is e a).symm⟩
              have HY := Lib.hid hyy
              have HONE : Hid (([y0, y1, y2, y3, y4, y5] : List Value).all (·.oneCell') = true) := Lib.hid (by have := Ex.cells_one e a; rw [hyy] at this; exact this)
              rw [hyy]
              clear hin hz hk hd hyy hlo
              go_simp
              refine hK.out _ _ ?_ (fun hHeld => ?_)
              · exact ⟨HSG.out _ HBB.out, HQS.out _ HQQ.out⟩
              clear hK K
              try simp only [Act.put, List.setIfInBounds_toArray, List.set_cons_zero, List.set_cons_succ]
              refine wpAnyH_ready (rs := [15]) (by kernel_rfl) (by simp) ?_
              refine AllReadyH.cons rfl (fun K hK => ?_) ?_
              · go_simp
                go_at_call 53
                refine (HIH.out _ HDD.out (HK.out.trans HBB.out)).mono ?_
                rintro r wB ⟨A2, n2, c2, us2, rfl, hn2, hn0, hwi, hwq, hk, hd⟩
                have hlo := HBB.out.size
                have HWI : Hid (WbsIn (fun i => wr.heap.size ≤ i ∧ i < wB.heap.size) wB A2 n2 us2) := Lib.hid (hwi.keep (fun _ _ _ => rfl) (fun i hi => ⟨by omega, hi.2⟩))
                have HWZ : Hid (n2 ≤ 2 ∧ (d - 1 = 0 → n2 = 0) ∧ ∀ i, i < n2 → wbQ (d - 1 - 1) (us2 i)) := Lib.hid ⟨hn2, hn0, hwq⟩
                replace HBB := Lib.hid (HBB.out.trans hk)
                replace HQQ := Lib.hid (HQQ.out.trans hk)
                replace HEE := Lib.hid (HEE.out.trans hk)
                have HWW : Hid (Keeps b wB wB) := Lib.hid (Keeps.refl _ _)
                replace HDD := Lib.hid hd
                clear hwi hwq hk hd hlo hn2 hn0
                go_simp
                refine hK.out _ _ ?_ (fun hHeld => ?_)
                · exact ⟨HSG.out _ HBB.out, HQS.out _ HQQ.out⟩
                clear hK K
                try simp only [Act.put, List.setIfInBounds_toArray, List.set_cons_zero, List.set_cons_succ]
                refine wpAnyH_take (i := 16) (v := ?v17) rfl (by kernel_rfl) (by kernel_rfl) (by kernel_rfl) (fun _ _ _ h => h) (Or.inl ⟨by rfl, ?hy17⟩) (by assumption) ?rest17
                case hy17 => (intro wx hSw; (try dsimp only at hSw); go_simp; try with_reducible rfl)
                try simp only [Act.put, List.setIfInBounds_toArray, List.set_cons_zero, List.set_cons_succ]
                refine wpAnyH_ready (rs := [17]) (by kernel_rfl) (by simp) ?_
                refine AllReadyH.cons rfl (fun K hK => ?_) ?_
                · go_simp
                  have hka : Keeps b wB (wB.alloc (.cells #[.string (bn j), y0, y1, y2, y3, y4, y5, .slice A2 n2 c2] 97)) := (Keeps.refl b _).alloc _
                  have HBO := HBB
                  have HEO := HEE
                  have HWO := HWW
                  have HDO := HDD
                  replace HBB := Lib.hid (HBB.out.trans hka)
                  replace HQQ := Lib.hid (HQQ.out.trans hka)
                  replace HEE := Lib.hid (HEE.out.trans hka)
                  replace HWW := Lib.hid (HWW.out.trans hka)
                  replace HDD : Hid (IsDeck (wB.alloc (.cells #[.string (bn j), y0, y1, y2, y3, y4, y5, .slice A2 n2 c2] 97)) b) := Lib.hid (HDD.out.alloc _)
                  clear hka
                  refine hK.out _ _ ?_ (fun hHeld => ?_)
                  · exact ⟨HSG.out _ HBB.out, HQS.out _ HQQ.out⟩
                  clear hK K
                  try simp only [Act.put, List.setIfInBounds_toArray, List.set_cons_zero, List.set_cons_succ]
                  refine wpAnyH_ready (rs := [18]) (by kernel_rfl) (by simp) ?_
                  refine AllReadyH.cons rfl (fun K hK => ?_) ?_
                  · have HO6 : Hid (wB.ownsRow (G + 1) 97 8 (.slice Av m cv) m (rowL (m * 8) (rowF 8 wbC zs))) := Lib.hid (own_keeps HO.out HBO.out (by omega))
                    have hs6 := HBO.out.size
                    refine step_append_lies _ (by rfl) _ _ _ (by rfl) (G + 1) 97 i0 _ 8 128 Tryz.underlying44 HI.out HZ0.out HZ1.out HZ2.out rfl (by omega) (.slice Av m cv) m (rowL (m * 8) (rowF 8 wbC zs)) (by rfl) (HO6.out.alloc _) ⟨wB.heap.size, 0, none⟩ 1 1 [.string (bn j), y0, y1, y2, y3, y4, y5, .slice A2 n2 c2] (by rfl) (by rfl) (World.news_of_block (cs := #[.string (bn j), y0, y1, y2, y3, y4, y5, .slice A2 n2 c2]) (t := 97) (fr := (0, 0)) (heap_alloc_new wB _)) (wb_one HONE.out) (by omega) (by unfold maxLen; omega) (by omega) (by simp; omega) (wB.heap.size + 1) (by simp) ?_
                    intro gg cap wA hown hgrow hat hltA
                    have hbm : Below (G + 1) wB wA := Below.grown (Below.alloc (Below.refl (G + 1) _) (by omega) (.cells #[.string (bn j), y0, y1, y2, y3, y4, y5, .slice A2 n2 c2] 97)) hgrow (by simp; omega) (fun q hq => (own_lt HO6.out hq).2)
                    have HS8 : Hid (∀ o, wA.cell? ⟨G, o, none⟩ = wB.cell? ⟨G, o, none⟩) := Lib.hid fun o => hbm.cell (p := ⟨G, o, none⟩) (Nat.lt_succ_self G)
                    have HQ8 : Hid (∀ o, wA.cell? ⟨wN.heap.size, o, none⟩ = (wB.alloc (.cells #[.string (bn j), y0, y1, y2, y3, y4, y5, .slice A2 n2 c2] 97)).cell? ⟨wN.heap.size, o, none⟩) := Lib.hid fun o => World.cell?_of_block (a := ⟨wN.heap.size, o, none⟩) (hgrow.block wN.heap.size (by have := HQQ.out.size; omega) (fun e => by have := (own_lt HO.out e.symm).1; omega))
                    refine hK.out _ _ ?_ (fun hHeld => ?_)
                    · exact ⟨(HS8.out 0).trans (HSG.out _ HBO.out), fun o ho => (HQ8.out o).trans (HQS.out _ HQQ.out o ho)⟩
                    clear hK K
                    try simp only [Act.put, List.setIfInBounds_toArray, List.set_cons_zero, List.set_cons_succ]
                    refine wpAnyH_take (i := 19) (v := ?v18) rfl (by kernel_rfl) (by kernel_rfl) (by kernel_rfl) (fun _ _ _ h => h) (Or.inl ⟨by rfl, ?hy18⟩) (by assumption) ?rest18
                    case hy18 => (intro wx hSw; (try dsimp only at hSw); go_simp; try with_reducible rfl)
                    try simp only [Act.put, List.setIfInBounds_toArray, List.set_cons_zero, List.set_cons_succ]
                    refine wpAnyH_done (by kernel_rfl) ?_ _
                    rw [rowF_snoc (s := 8) (vs := [.string (bn j), y0, y1, y2, y3, y4, y5, .slice A2 n2 c2]) (cf := wbC) (x := (Wb.mk (bn j) e n2 us2, ⟨a, A2, c2⟩)) rfl (wb8_get HY.out)] at hown
                    have HO7 := Lib.hid hown
                    have HA7 := Lib.hid (row_next (w8 := wA) (x := (Wb.mk (bn j) e n2 us2, ⟨a, A2, c2⟩)) (wbP_moves (d - 1)) HA.out HBO.out (by omega) HO.out ⟨wb_fresh (by omega) HIN.out HEO.out HWI.out HWO.out (by have := HWZ.out.1; unfold big; omega), wb_q hj3 HEZ.out HWZ.out⟩ hgrow (by first | exact hat | (rw [hq1]; exact hat)) hsG hsG (fun _ _ _ => rfl) rfl)
                    have HE7 := Lib.hid ((HE.out.keeps HBO.out (by omega)).below hbm (Nat.lt_succ_self G))
                    have HK7 := Lib.hid ((HK.out.trans HBO.out).then hbm (by omega))
                    have HD7 := Lib.hid (HDO.out.below hbm (by omega))
                    clear hown hgrow hat hbm hltA HO HA HE HK HD HBB HDD HEE HWW HQQ HQS HBO HEO HWO HDO HIN HEZ HWI HWZ HY HONE HO6 HS8 HQ8 hHeld hq0 hq1 HSG
                    go_wp2_with fail
                    go_roundw
                    case rel => exact ⟨m + 1, k - 1, some ⟨gg, 0, none⟩, cap, _, by omega, fun h => by omega, by rfl, by rfl, HO7, HA7, HE7, HK7, HD7⟩
                    case measure => simp [intOf]; omega
                  exact AllReadyH.nil
                exact AllReadyH.nil
              exact AllReadyH.nil
            exact AllReadyH.nil
          refine AllReadyH.cons rfl (fun K hK => ?_) ?_
          · go_simp
            go_at_call 52
            refine (HX2.out _ HDD.out (HK.out.trans HBB.out)).mono ?_
            rintro r wE ⟨e, a, rfl, hin, hz, hk, hd⟩
            have hlo := HBB.out.size
            have HIN : Hid (ExIn (fun i => wr.heap.size ≤ i ∧ i < wE.heap.size) wE e a) := Lib.hid (ExIn.keep (fun _ _ _ => rfl) (fun i hi => ⟨by omega, hi.2⟩) _ _ hin)
            have HEZ := Lib.hid hz
            replace HBB := Lib.hid (HBB.out.trans hk)
            have HEE : Hid (Keeps b wE wE) := Lib.hid (Keeps.refl _ _)
            replace HDD := Lib.hid hd
            obtain ⟨y0, y1, y2, y3, y4, y5, hyy⟩ : ∃ y0 y1 y2 y3 y4 y5, e.cells a = #[y0, y1, y2, y3, y4, y5] := ⟨_, _, _, _, _, _, (Ex.cells_is e a).symm⟩
            have HY := Lib.hid hyy
            have HONE : Hid (([y0, y1, y2, y3, y4, y5] : List Value).all (·.oneCell') = true) := Lib.hid (by have := Ex.cells_one e a; rw [hyy] at this; exact this)
            rw [hyy]
            clear hin hz hk hd hyy hlo
            go_simp
            refine hK.out _ _ ?_ (fun hHeld => ?_)
            · exact HSG.out _ HBB.out
            clear hK K
            try simp only [Act.put, List.setIfInBounds_toArray, List.set_cons_zero, List.set_cons_succ]
            refine wpAnyH_ready (rs := [1, 15]) (by kernel_rfl) (by simp) ?_
            refine AllReadyH.cons rfl (fun K hK => ?_) ?_
            · go_simp
              have hq0 : wr.heap.size ≤ wE.heap.size := HBB.out.size
              have hq1 : (wE.alloc (.cells #[.string { data := #[119] }, .string { data := #[120] }, .string { data := #[121] }] 9)).heap.size = wE.heap.size + 1 := by simp
              have HQS : Hid (∀ V, Keeps b (wE.alloc (.cells #[.string { data := #[119] }, .string { data := #[120] }, .string { data := #[121] }] 9)) V → ∀ j, j < 3 → V.cell? ⟨wE.heap.size, j, none⟩ = some (.string (bn j))) := Lib.hid (strs_kept (by have := HBB.out.size; omega))
              have HQQ : Hid (Keeps b (wE.alloc (.cells #[.string { data := #[119] }, .string { data := #[120] }, .string { data := #[121] }] 9)) (wE.alloc (.cells #[.string { data := #[119] }, .string { data := #[120] }, .string { data := #[121] }] 9))) := Lib.hid (Keeps.refl _ _)
              have hka : Keeps b wE (wE.alloc (.cells #[.string { data := #[119] }, .string { data := #[120] }, .string { data := #[121] }] 9)) := (Keeps.refl b _).alloc _
              replace HBB := Lib.hid (HBB.out.trans hka)
              replace HEE := Lib.hid (HEE.out.trans hka)
              replace HDD : Hid (IsDeck (wE.alloc (.cells #[.string { data := #[119] }, .string { data := #[120] }, .string { data := #[121] }] 9)) b) := Lib.hid (HDD.out.alloc _)
              clear hka
              refine hK.out _ _ ?_ (fun hHeld => ?_)
              · exact HSG.out _ HBB.out
              clear hK K
              refine wpAnyH_up (S' := (fun wx => wx.cell? ⟨G, 0, none⟩ = some (.slice A n c) ∧ ∀ j, j < 3 → wx.cell? ⟨wE.heap.size, j, none⟩ = some (.string (bn j)))) (fun _ h => h.1) (by exact ⟨HSG.out _ HBB.out, HQS.out _ HQQ.out⟩) ?_
              have hHeld2 : (fun wx => wx.cell? ⟨G, 0, none⟩ = some (.slice A n c) ∧ ∀ j, j < 3 → wx.cell? ⟨wE.heap.size, j, none⟩ = some (.string (bn j))) (wE.alloc (.cells #[.string { data := #[119] }, .string { data := #[120] }, .string { data := #[121] }] 9)) := by exact ⟨HSG.out _ HBB.out, HQS.out _ HQQ.out⟩
              dsimp only at hHeld2
              try simp only [Act.put, List.setIfInBounds_toArray, List.set_cons_zero, List.set_cons_succ]
              refine wpAnyH_take (i := 4) (v := ?v19) rfl (by kernel_rfl) (by kernel_rfl) (by kernel_rfl) (fun _ _ _ h => h) (Or.inl ⟨by rfl, ?hy19⟩) (by assumption) ?rest19
              case hy19 => (intro wx hSw; (try dsimp only at hSw); go_simp; try with_reducible rfl)
              try simp only [Act.put, List.setIfInBounds_toArray, List.set_cons_zero, List.set_cons_succ]
              refine wpAnyH_take (i := 5) (v := ?v20) rfl (by kernel_rfl) (by kernel_rfl) (by kernel_rfl) (fun _ _ _ h => h) (Or.inl ⟨by rfl, ?hy20⟩) (by assumption) ?rest20
              case hy20 => (intro wx hSw; (try dsimp only at hSw); go_simp; try with_reducible rfl)
              try simp only [Act.put, List.setIfInBounds_toArray, List.set_cons_zero, List.set_cons_succ]
              refine wpAnyH_ready (rs := [15]) (by kernel_rfl) (by simp) ?_
              refine AllReadyH.cons rfl (fun K hK => ?_) ?_
              · go_simp
                go_at_call 53
                refine (HIH.out _ HDD.out (HK.out.trans HBB.out)).mono ?_
                rintro r wB ⟨A2, n2, c2, us2, rfl, hn2, hn0, hwi, hwq, hk, hd⟩
                have hlo := HBB.out.size
                have HWI : Hid (WbsIn (fun i => wr.heap.size ≤ i ∧ i < wB.heap.size) wB A2 n2 us2) := Lib.hid (hwi.keep (fun _ _ _ => rfl) (fun i hi => ⟨by omega, hi.2⟩))
                have HWZ : Hid (n2 ≤ 2 ∧ (d - 1 = 0 → n2 = 0) ∧ ∀ i, i < n2 → wbQ (d - 1 - 1) (us2 i)) := Lib.hid ⟨hn2, hn0, hwq⟩
                replace HBB := Lib.hid (HBB.out.trans hk)
                replace HQQ := Lib.hid (HQQ.out.trans hk)
                replace HEE := Lib.hid (HEE.out.trans hk)
                have HWW : Hid (Keeps b wB wB) := Lib.hid (Keeps.refl _ _)
                replace HDD := Lib.hid hd
                clear hwi hwq hk hd hlo hn2 hn0
                go_simp
                refine hK.out _ _ ?_ (fun hHeld => ?_)
                · exact ⟨HSG.out _ HBB.out, HQS.out _ HQQ.out⟩
                clear hK K
                try simp only [Act.put, List.setIfInBounds_toArray, List.set_cons_zero, List.set_cons_succ]
                refine wpAnyH_take (i := 16) (v := ?v21) rfl (by kernel_rfl) (by kernel_rfl) (by kernel_rfl) (fun _ _ _ h => h) (Or.inl ⟨by rfl, ?hy21⟩) (by assumption) ?rest21
                case hy21 => (intro wx hSw; (try dsimp only at hSw); go_simp; try with_reducible rfl)
                try simp only [Act.put, List.setIfInBounds_toArray, List.set_cons_zero, List.set_cons_succ]
                refine wpAnyH_ready (rs := [17]) (by kernel_rfl) (by simp) ?_
                refine AllReadyH.cons rfl (fun K hK => ?_) ?_
                · go_simp
                  have hka : Keeps b wB (wB.alloc (.cells #[.string (bn j), y0, y1, y2, y3, y4, y5, .slice A2 n2 c2] 97)) := (Keeps.refl b _).alloc _
                  have HBO := HBB
                  have HEO := HEE
                  have HWO := HWW
                  have HDO := HDD
                  replace HBB := Lib.hid (HBB.out.trans hka)
                  replace HQQ := Lib.hid (HQQ.out.trans hka)
                  replace HEE := Lib.hid (HEE.out.trans hka)
                  replace HWW := Lib.hid (HWW.out.trans hka)
                  replace HDD : Hid (IsDeck (wB.alloc (.cells #[.string (bn j), y0, y1, y2, y3, y4, y5, .slice A2 n2 c2] 97)) b) := Lib.hid (HDD.out.alloc _)
                  clear hka
                  refine hK.out _ _ ?_ (fun hHeld => ?_)
                  · exact ⟨HSG.out _ HBB.out, HQS.out _ HQQ.out⟩
                  clear hK K
                  try simp only [Act.put, List.setIfInBounds_toArray, List.set_cons_zero, List.set_cons_succ]
                  refine wpAnyH_ready (rs := [18]) (by kernel_rfl) (by simp) ?_
                  refine AllReadyH.cons rfl (fun K hK => ?_) ?_
                  · have HO6 : Hid (wB.ownsRow (G + 1) 97 8 (.slice Av m cv) m (rowL (m * 8) (rowF 8 wbC zs))) := Lib.hid (own_keeps HO.out HBO.out (by omega))
                    have hs6 := HBO.out.size
                    refine step_append_lies _ (by rfl) _ _ _ (by rfl) (G + 1) 97 i0 _ 8 128 Tryz.underlying44 HI.out HZ0.out HZ1.out HZ2.out rfl (by omega) (.slice Av m cv) m (rowL (m * 8) (rowF 8 wbC zs)) (by rfl) (HO6.out.alloc _) ⟨wB.heap.size, 0, none⟩ 1 1 [.string (bn j), y0, y1, y2, y3, y4, y5, .slice A2 n2 c2] (by rfl) (by rfl) (World.news_of_block (cs := #[.string (bn j), y0, y1, y2, y3, y4, y5, .slice A2 n2 c2]) (t := 97) (fr := (0, 0)) (heap_alloc_new wB _)) (wb_one HONE.out) (by omega) (by unfold maxLen; omega) (by omega) (by simp; omega) (wB.heap.size + 1) (by simp) ?_
                    intro gg cap wA hown hgrow hat hltA
                    have hbm : Below (G + 1) wB wA := Below.grown (Below.alloc (Below.refl (G + 1) _) (by omega) (.cells #[.string (bn j), y0, y1, y2, y3, y4, y5, .slice A2 n2 c2] 97)) hgrow (by simp; omega) (fun q hq => (own_lt HO6.out hq).2)
                    have HS8 : Hid (∀ o, wA.cell? ⟨G, o, none⟩ = wB.cell? ⟨G, o, none⟩) := Lib.hid fun o => hbm.cell (p := ⟨G, o, none⟩) (Nat.lt_succ_self G)
                    have HQ8 : Hid (∀ o, wA.cell? ⟨wE.heap.size, o, none⟩ = (wB.alloc (.cells #[.string (bn j), y0, y1, y2, y3, y4, y5, .slice A2 n2 c2] 97)).cell? ⟨wE.heap.size, o, none⟩) := Lib.hid fun o => World.cell?_of_block (a := ⟨wE.heap.size, o, none⟩) (hgrow.block wE.heap.size (by have := HQQ.out.size; omega) (fun e => by have := (own_lt HO.out e.symm).1; omega))
                    refine hK.out _ _ ?_ (fun hHeld => ?_)
                    · exact ⟨(HS8.out 0).trans (HSG.out _ HBO.out), fun o ho => (HQ8.out o).trans (HQS.out _ HQQ.out o ho)⟩
                    clear hK K
                    try simp only [Act.put, List.setIfInBounds_toArray, List.set_cons_zero, List.set_cons_succ]
                    refine wpAnyH_take (i := 19) (v := ?v22) rfl (by kernel_rfl) (by kernel_rfl) (by kernel_rfl) (fun _ _ _ h => h) (Or.inl ⟨by rfl, ?hy22⟩) (by assumption) ?rest22
                    case hy22 => (intro wx hSw; (try dsimp only at hSw); go_simp; try with_reducible rfl)
                    try simp only [Act.put, List.setIfInBounds_toArray, List.set_cons_zero, List.set_cons_succ]
                    refine wpAnyH_done (by kernel_rfl) ?_ _
                    rw [rowF_snoc (s := 8) (vs := [.string (bn j), y0, y1, y2, y3, y4, y5, .slice A2 n2 c2]) (cf := wbC) (x := (Wb.mk (bn j) e n2 us2, ⟨a, A2, c2⟩)) rfl (wb8_get HY.out)] at hown
                    have HO7 := Lib.hid hown
                    have HA7 := Lib.hid (row_next (w8 := wA) (x := (Wb.mk (bn j) e n2 us2, ⟨a, A2, c2⟩)) (wbP_moves (d - 1)) HA.out HBO.out (by omega) HO.out ⟨wb_fresh (by omega) HIN.out HEO.out HWI.out HWO.out (by have := HWZ.out.1; unfold big; omega), wb_q hj3 HEZ.out HWZ.out⟩ hgrow (by first | exact hat | (rw [hq1]; exact hat)) hsG hsG (fun _ _ _ => rfl) rfl)
                    have HE7 := Lib.hid ((HE.out.keeps HBO.out (by omega)).below hbm (Nat.lt_succ_self G))
                    have HK7 := Lib.hid ((HK.out.trans HBO.out).then hbm (by omega))
                    have HD7 := Lib.hid (HDO.out.below hbm (by omega))
                    clear hown hgrow hat hbm hltA HO HA HE HK HD HBB HDD HEE HWW HQQ HQS HBO HEO HWO HDO HIN HEZ HWI HWZ HY HONE HO6 HS8 HQ8 hHeld hq0 hq1 HSG
                    go_wp2_with fail
                    go_roundw
                    case rel => exact ⟨m + 1, k - 1, some ⟨gg, 0, none⟩, cap, _, by omega, fun h => by omega, by rfl, by rfl, HO7, HA7, HE7, HK7, HD7⟩
                    case measure => simp [intOf]; omega
                  exact AllReadyH.nil
                exact AllReadyH.nil
              exact AllReadyH.nil
            refine AllReadyH.cons rfl (fun K hK => ?_) ?_
            · go_simp
              go_at_call 53
              refine (HIH.out _ HDD.out (HK.out.trans HBB.out)).mono ?_
              rintro r wB ⟨A2, n2, c2, us2, rfl, hn2, hn0, hwi, hwq, hk, hd⟩
              have hlo := HBB.out.size
              have HWI : Hid (WbsIn (fun i => wr.heap.size ≤ i ∧ i < wB.heap.size) wB A2 n2 us2) := Lib.hid (hwi.keep (fun _ _ _ => rfl) (fun i hi => ⟨by omega, hi.2⟩))
              have HWZ : Hid (n2 ≤ 2 ∧ (d - 1 = 0 → n2 = 0) ∧ ∀ i, i < n2 → wbQ (d - 1 - 1) (us2 i)) := Lib.hid ⟨hn2, hn0, hwq⟩
              replace HBB := Lib.hid (HBB.out.trans hk)
              replace HEE := Lib.hid (HEE.out.trans hk)
              have HWW : Hid (Keeps b wB wB) := Lib.hid (Keeps.refl _ _)
              replace HDD := Lib.hid hd
              clear hwi hwq hk hd hlo hn2 hn0
              go_simp
              refine hK.out _ _ ?_ (fun hHeld => ?_)
              · exact HSG.out _ HBB.out
              clear hK K
              try simp only [Act.put, List.setIfInBounds_toArray, List.set_cons_zero, List.set_cons_succ]
              refine wpAnyH_ready (rs := [1]) (by kernel_rfl) (by simp) ?_
              refine AllReadyH.cons rfl (fun K hK => ?_) ?_
              · go_simp
                have hq0 : wr.heap.size ≤ wB.heap.size := HBB.out.size
                have hq1 : (wB.alloc (.cells #[.string { data := #[119] }, .string { data := #[120] }, .string { data := #[121] }] 9)).heap.size = wB.heap.size + 1 := by simp
                have HQS : Hid (∀ V, Keeps b (wB.alloc (.cells #[.string { data := #[119] }, .string { data := #[120] }, .string { data := #[121] }] 9)) V → ∀ j, j < 3 → V.cell? ⟨wB.heap.size, j, none⟩ = some (.string (bn j))) := Lib.hid (strs_kept (by have := HBB.out.size; omega))
                have HQQ : Hid (Keeps b (wB.alloc (.cells #[.string { data := #[119] }, .string { data := #[120] }, .string { data := #[121] }] 9)) (wB.alloc (.cells #[.string { data := #[119] }, .string { data := #[120] }, .string { data := #[121] }] 9))) := Lib.hid (Keeps.refl _ _)
                have hka : Keeps b wB (wB.alloc (.cells #[.string { data := #[119] }, .string { data := #[120] }, .string { data := #[121] }] 9)) := (Keeps.refl b _).alloc _
                replace HBB := Lib.hid (HBB.out.trans hka)
                replace HEE := Lib.hid (HEE.out.trans hka)
                replace HWW := Lib.hid (HWW.out.trans hka)
                replace HDD : Hid (IsDeck (wB.alloc (.cells #[.string { data := #[119] }, .string { data := #[120] }, .string { data := #[121] }] 9)) b) := Lib.hid (HDD.out.alloc _)
                clear hka
                refine hK.out _ _ ?_ (fun hHeld => ?_)
                · exact HSG.out _ HBB.out
                clear hK K
                refine wpAnyH_up (S' := (fun wx => wx.cell? ⟨G, 0, none⟩ = some (.slice A n c) ∧ ∀ j, j < 3 → wx.cell? ⟨wB.heap.size, j, none⟩ = some (.string (bn j)))) (fun _ h => h.1) (by exact ⟨HSG.out _ HBB.out, HQS.out _ HQQ.out⟩) ?_
                have hHeld2 : (fun wx => wx.cell? ⟨G, 0, none⟩ = some (.slice A n c) ∧ ∀ j, j < 3 → wx.cell? ⟨wB.heap.size, j, none⟩ = some (.string (bn j))) (wB.alloc (.cells #[.string { data := #[119] }, .string { data := #[120] }, .string { data := #[121] }] 9)) := by exact ⟨HSG.out _ HBB.out, HQS.out _ HQQ.out⟩
                dsimp only at hHeld2
                try simp only [Act.put, List.setIfInBounds_toArray, List.set_cons_zero, List.set_cons_succ]
                refine wpAnyH_take (i := 4) (v := ?v23) rfl (by kernel_rfl) (by kernel_rfl) (by kernel_rfl) (fun _ _ _ h => h) (Or.inl ⟨by rfl, ?hy23⟩) (by assumption) ?rest23
                case hy23 => (intro wx hSw; (try dsimp only at hSw); go_simp; try with_reducible rfl)
                try simp only [Act.put, List.setIfInBounds_toArray, List.set_cons_zero, List.set_cons_succ]
                refine wpAnyH_take (i := 5) (v := ?v24) rfl (by kernel_rfl) (by kernel_rfl) (by kernel_rfl) (fun _ _ _ h => h) (Or.inl ⟨by rfl, ?hy24⟩) (by assumption) ?rest24
                case hy24 => (intro wx hSw; (try dsimp only at hSw); go_simp; try with_reducible rfl)
                try simp only [Act.put, List.setIfInBounds_toArray, List.set_cons_zero, List.set_cons_succ]
                refine wpAnyH_take (i := 16) (v := ?v25) rfl (by kernel_rfl) (by kernel_rfl) (by kernel_rfl) (fun _ _ _ h => h) (Or.inl ⟨by rfl, ?hy25⟩) (by assumption) ?rest25
                case hy25 => (intro wx hSw; (try dsimp only at hSw); go_simp; try with_reducible rfl)
                try simp only [Act.put, List.setIfInBounds_toArray, List.set_cons_zero, List.set_cons_succ]
                refine wpAnyH_ready (rs := [17]) (by kernel_rfl) (by simp) ?_
                refine AllReadyH.cons rfl (fun K hK => ?_) ?_
                · go_simp
                  have hka : Keeps b (wB.alloc (.cells #[.string { data := #[119] }, .string { data := #[120] }, .string { data := #[121] }] 9)) ((wB.alloc (.cells #[.string { data := #[119] }, .string { data := #[120] }, .string { data := #[121] }] 9)).alloc (.cells #[.string (bn j), y0, y1, y2, y3, y4, y5, .slice A2 n2 c2] 97)) := (Keeps.refl b _).alloc _
                  have HBO := HBB
                  have HEO := HEE
                  have HWO := HWW
                  have HDO := HDD
                  replace HBB := Lib.hid (HBB.out.trans hka)
                  replace HQQ := Lib.hid (HQQ.out.trans hka)
                  replace HEE := Lib.hid (HEE.out.trans hka)
                  replace HWW := Lib.hid (HWW.out.trans hka)
                  replace HDD : Hid (IsDeck ((wB.alloc (.cells #[.string { data := #[119] }, .string { data := #[120] }, .string { data := #[121] }] 9)).alloc (.cells #[.string (bn j), y0, y1, y2, y3, y4, y5, .slice A2 n2 c2] 97)) b) := Lib.hid (HDD.out.alloc _)
                  clear hka
                  refine hK.out _ _ ?_ (fun hHeld => ?_)
                  · exact ⟨HSG.out _ HBB.out, HQS.out _ HQQ.out⟩
                  clear hK K
                  try simp only [Act.put, List.setIfInBounds_toArray, List.set_cons_zero, List.set_cons_succ]
                  refine wpAnyH_ready (rs := [18]) (by kernel_rfl) (by simp) ?_
                  refine AllReadyH.cons rfl (fun K hK => ?_) ?_
                  · have HO6 : Hid ((wB.alloc (.cells #[.string { data := #[119] }, .string { data := #[120] }, .string { data := #[121] }] 9)).ownsRow (G + 1) 97 8 (.slice Av m cv) m (rowL (m * 8) (rowF 8 wbC zs))) := Lib.hid (own_keeps HO.out HBO.out (by omega))
                    have hs6 := HBO.out.size
                    refine step_append_lies _ (by rfl) _ _ _ (by rfl) (G + 1) 97 i0 _ 8 128 Tryz.underlying44 HI.out HZ0.out HZ1.out HZ2.out rfl (by omega) (.slice Av m cv) m (rowL (m * 8) (rowF 8 wbC zs)) (by rfl) (HO6.out.alloc _) ⟨wB.heap.size + 1, 0, none⟩ 1 1 [.string (bn j), y0, y1, y2, y3, y4, y5, .slice A2 n2 c2] (by rfl) (by rfl) (World.news_of_block (cs := #[.string (bn j), y0, y1, y2, y3, y4, y5, .slice A2 n2 c2]) (t := 97) (fr := (0, 0)) (by have hq := heap_alloc_new (wB.alloc (.cells #[.string { data := #[119] }, .string { data := #[120] }, .string { data := #[121] }] 9)) (.cells #[.string (bn j), y0, y1, y2, y3, y4, y5, .slice A2 n2 c2] 97); rw [hq1] at hq; exact hq)) (wb_one HONE.out) (by omega) (by unfold maxLen; omega) (by omega) (by simp; omega) (wB.heap.size + 1 + 1) (by simp) ?_
                    intro gg cap wA hown hgrow hat hltA
                    have hbm : Below (G + 1) (wB.alloc (.cells #[.string { data := #[119] }, .string { data := #[120] }, .string { data := #[121] }] 9)) wA := Below.grown (Below.alloc (Below.refl (G + 1) _) (by omega) (.cells #[.string (bn j), y0, y1, y2, y3, y4, y5, .slice A2 n2 c2] 97)) hgrow (by simp; omega) (fun q hq => (own_lt HO6.out hq).2)
                    have HS8 : Hid (∀ o, wA.cell? ⟨G, o, none⟩ = (wB.alloc (.cells #[.string { data := #[119] }, .string { data := #[120] }, .string { data := #[121] }] 9)).cell? ⟨G, o, none⟩) := Lib.hid fun o => hbm.cell (p := ⟨G, o, none⟩) (Nat.lt_succ_self G)
                    have HQ8 : Hid (∀ o, wA.cell? ⟨wB.heap.size, o, none⟩ = ((wB.alloc (.cells #[.string { data := #[119] }, .string { data := #[120] }, .string { data := #[121] }] 9)).alloc (.cells #[.string (bn j), y0, y1, y2, y3, y4, y5, .slice A2 n2 c2] 97)).cell? ⟨wB.heap.size, o, none⟩) := Lib.hid fun o => World.cell?_of_block (a := ⟨wB.heap.size, o, none⟩) (hgrow.block wB.heap.size (by have := HQQ.out.size; omega) (fun e => by have := (own_lt HO.out e.symm).1; omega))
                    refine hK.out _ _ ?_ (fun hHeld => ?_)
                    · exact ⟨(HS8.out 0).trans (HSG.out _ HBO.out), fun o ho => (HQ8.out o).trans (HQS.out _ HQQ.out o ho)⟩
                    clear hK K
                    try simp only [Act.put, List.setIfInBounds_toArray, List.set_cons_zero, List.set_cons_succ]
                    refine wpAnyH_take (i := 19) (v := ?v26) rfl (by kernel_rfl) (by kernel_rfl) (by kernel_rfl) (fun _ _ _ h => h) (Or.inl ⟨by rfl, ?hy26⟩) (by assumption) ?rest26
                    case hy26 => (intro wx hSw; (try dsimp only at hSw); go_simp; try with_reducible rfl)
                    try simp only [Act.put, List.setIfInBounds_toArray, List.set_cons_zero, List.set_cons_succ]
                    refine wpAnyH_done (by kernel_rfl) ?_ _
                    rw [rowF_snoc (s := 8) (vs := [.string (bn j), y0, y1, y2, y3, y4, y5, .slice A2 n2 c2]) (cf := wbC) (x := (Wb.mk (bn j) e n2 us2, ⟨a, A2, c2⟩)) rfl (wb8_get HY.out)] at hown
                    have HO7 := Lib.hid hown
                    have HA7 := Lib.hid (row_next (w8 := wA) (x := (Wb.mk (bn j) e n2 us2, ⟨a, A2, c2⟩)) (wbP_moves (d - 1)) HA.out HBO.out (by omega) HO.out ⟨wb_fresh (by omega) HIN.out HEO.out HWI.out HWO.out (by have := HWZ.out.1; unfold big; omega), wb_q hj3 HEZ.out HWZ.out⟩ hgrow (by first | exact hat | (rw [hq1]; exact hat)) hsG hsG (fun _ _ _ => rfl) rfl)
                    have HE7 := Lib.hid ((HE.out.keeps HBO.out (by omega)).below hbm (Nat.lt_succ_self G))
                    have HK7 := Lib.hid ((HK.out.trans HBO.out).then hbm (by omega))
                    have HD7 := Lib.hid (HDO.out.below hbm (by omega))
                    clear hown hgrow hat hbm hltA HO HA HE HK HD HBB HDD HEE HWW HQQ HQS HBO HEO HWO HDO HIN HEZ HWI HWZ HY HONE HO6 HS8 HQ8 hHeld hq0 hq1 HSG
                    go_wp2_with fail
                    go_roundw
                    case rel => exact ⟨m + 1, k - 1, some ⟨gg, 0, none⟩, cap, _, by omega, fun h => by omega, by rfl, by rfl, HO7, HA7, HE7, HK7, HD7⟩
                    case measure => simp [intOf]; omega
                  exact AllReadyH.nil
                exact AllReadyH.nil
              exact AllReadyH.nil
            exact AllReadyH.nil
          exact AllReadyH.nil
        exact AllReadyH.nil
      · have hd1 : ¬ (0 : Int) < d := by omega
        go_wp2_with fail
        go_ret
        exact HFIN.out m Av cv zs wr (by omega) hm0 HO.out HA.out HK.out HD.out
    · have hk1 : ¬ (0 : Int) < k := by omega
      go_wp2_with fail
      go_ret
      exact HFIN.out m Av cv zs wr (by omega) hm0 HO.out HA.out HK.out HD.out

theorem backs_made (b : Nat) (A An : Option Addr) (n c nn cn : Nat) (ats : Nat → Att) (f : Nat → ByteArray) (d : Nat) : d ≤ 2 → ∀ w : World, IsDeck w b → SchIn (off b w) w A n ats → NmIn (off b w) w An nn f →
    Calls Tryz.prog 53 #[.pointer (some ⟨b, 0, none⟩), .agg #[.slice A n c], .slice An nn cn, .int .i64 d] w (MadeB d b w) := by
  induction d using Nat.strongRecOn with
  | ind d ih => exact fun h w h1 h2 h3 => backs_step b A An n c nn cn ats f d h (fun d' hd' => ih d' hd' (by omega)) w h1 h2 h3
end Go.Proofs.YtlbkhhbbkedhkaaGreatDoor
