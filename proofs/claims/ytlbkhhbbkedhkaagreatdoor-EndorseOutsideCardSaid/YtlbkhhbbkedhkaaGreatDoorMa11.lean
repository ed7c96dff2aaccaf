/- A row of structs that the call owns, as a function of its cells. No program in sight. slices.Clone of slices of structs (printed by wip/gen/wtb.py). The reference's Same: the same expression is the same. The reference's sameBacks and SameClauses: the same lists are the same. -/
import Derived.Test.YtlbkhhbbkedhkaaGreatDoorMa10
import Derived.Laws.CopyRow
import Derived.Laws.CopyOwn
import Derived.Deep.AppendLies
import Derived.Maps.AppendAt
import Derived.Lib.SlicesS
namespace Go.Proofs.YtlbkhhbbkedhkaaGreatDoor
open Go.RowKit
set_option linter.unusedVariables false

/-- the call owns n elements of s cells in block g, with room for cap -/
def Own (w : World) (base g n cap s : Nat) (e : TypeId) (F : Nat → Value) : Prop :=
  ∃ cur : Array Value, w.heap[g]? = some (.cells cur e (0, 0)) ∧ base ≤ g ∧ (n ≤ cap ∧ cap ≤ maxLen) ∧ cur.size = cap * s ∧ ∀ j, j < n * s → cur[j]? = some (F j)
def rowL (k : Nat) (F : Nat → Value) : List Value := (List.range k).map F
theorem rowL_length (k : Nat) (F : Nat → Value) : (rowL k F).length = k := by simp [rowL]
theorem rowL_get (k : Nat) (F : Nat → Value) (j : Nat) (h : j < k) : (rowL k F)[j]? = some (F j) := by simp [rowL, h]

section
variable {w w' : World} {base g n cap s : Nat} {e : TypeId} {F G : Nat → Value}
theorem Own.lt (h : Own w base g n cap s e F) : g < w.heap.size := by
  obtain ⟨cur, hh, _⟩ := h
  exact Has.lt (t := e) (cs := cur) hh
theorem Own.base_le (h : Own w base g n cap s e F) : base ≤ g := by obtain ⟨_, _, h, _⟩ := h; exact h
theorem Own.len (h : Own w base g n cap s e F) : n ≤ cap ∧ cap ≤ maxLen := by obtain ⟨_, _, _, h, _⟩ := h; exact h
theorem Own.row (h : Own w base g n cap s e F) : w.ownsRow base e s (.slice (some ⟨g, 0, none⟩) n cap) n (rowL (n * s) F) := by
  obtain ⟨cur, hh, hb, ⟨hn, hc⟩, hs, hF⟩ := h
  have hle : n * s ≤ cap * s := Nat.mul_le_mul_right s hn
  refine ⟨rowL_length _ _, .inr ⟨g, cap, cur, rfl, hb, hh, hn, hc, hs, ?_⟩⟩
  apply List.ext_getElem?
  intro j
  rw [List.getElem?_take]
  by_cases hj : j < n * s
  · rw [if_pos hj, rowL_get _ _ _ hj, Array.getElem?_toList, hF j hj]
  · rw [if_neg hj, List.getElem?_eq_none (by rw [rowL_length]; omega)]
theorem Own.of_row {g cap : Nat} {xs : List Value} (h : w.ownsRow base e s (.slice (some ⟨g, 0, none⟩) n cap) n xs) (hx : ∀ j, j < n * s → xs[j]? = some (F j)) : Own w base g n cap s e F := by
  rcases h.2 with ⟨h0, _⟩ | ⟨g', cap', cur, hv, hb, hh, hn, hc, hs, ht⟩
  · cases h0
  · injection hv with hv _ hv3
    injection hv with hv
    injection hv with hv
    subst hv hv3
    refine ⟨cur, hh, hb, ⟨hn, hc⟩, hs, fun j hj => ?_⟩
    rw [← hx j hj, ← ht, List.getElem?_take, if_pos hj, Array.getElem?_toList]
theorem Own.of_block (h : Own w base g n cap s e F) (eq : w'.heap[g]? = w.heap[g]?) : Own w' base g n cap s e F := by
  obtain ⟨cur, hh, hr⟩ := h
  exact ⟨cur, eq.trans hh, hr⟩
theorem Own.below {B : Nat} (h : Own w base g n cap s e F) (hb : Below B w w') (hg : g < B) : Own w' base g n cap s e F := h.of_block (hb.block g hg)
theorem Own.later (h : Own w base g n cap s e F) (hb : Below w.heap.size w w') : Own w' base g n cap s e F := h.below hb h.lt
theorem Own.congr (h : Own w base g n cap s e F) (eq : ∀ j, j < n * s → F j = G j) : Own w base g n cap s e G := by
  obtain ⟨cur, hh, h1, h2, h3, h4⟩ := h
  exact ⟨cur, hh, h1, h2, h3, fun j hj => by rw [← eq j hj]; exact h4 j hj⟩
theorem Own.cell (h : Own w base g n cap s e F) {j : Nat} (hj : j < n * s) : w.cell? ⟨g, j, none⟩ = some (F j) := by
  obtain ⟨cur, hh, _, _, _, h4⟩ := h
  rw [cell_of_row w g j cur e (0, 0) hh]
  exact h4 j hj
theorem Own.free (h : Own w base g n cap s e F) (j : Nat) : w.frozen? ⟨g, j, none⟩ = false := by
  obtain ⟨cur, hh, _⟩ := h
  exact Has.free (t := e) (cs := cur) hh j
theorem Own.cut {m : Nat} (h : Own w base g n cap s e F) (hm : m ≤ n) : Own w base g m cap s e F := by
  obtain ⟨cur, hh, h1, h2, h3, h4⟩ := h
  exact ⟨cur, hh, h1, ⟨by omega, h2.2⟩, h3, fun j hj => h4 j (Nat.lt_of_lt_of_le hj (Nat.mul_le_mul_right s hm))⟩
theorem Own.down {base' : Nat} (h : Own w base g n cap s e F) (hb : base' ≤ base) : Own w base' g n cap s e F := by
  obtain ⟨cur, hh, h1, h2⟩ := h
  exact ⟨cur, hh, Nat.le_trans hb h1, h2⟩
theorem Own.cells (h : Own w base g n cap s e F) : Cells w w.heap.size (some ⟨g, 0, none⟩) (n * s) F := fun hn => ⟨_, rfl, h.lt, fun j hj => by
  rw [Go.WideShapes.add_plain, Nat.zero_add]
  exact h.cell hj⟩
theorem Own.range {i : Nat} {cs : List Value} (h : Own w base g n cap s e F) (hl : cs.length = s) (hi : i < n) (hF : ∀ j, j < s → cs[j]? = some (F (i * s + j))) : w.rangeAt g (i * s) cs := fun j v hj => by
  have hjs : j < s := by rw [← hl]; exact (List.getElem?_eq_some_iff.1 hj).1
  have hlt : i * s + j < n * s := by
    have := Nat.mul_le_mul_right s (show i + 1 ≤ n by omega)
    rw [Nat.succ_mul] at this
    omega
  rw [h.cell hlt, ← hF j hjs, hj]
end

theorem setCells_block (g : Nat) (t : TypeId) : ∀ (vs : List Value) (o : Nat) (cur : Array Value) (w : World), w.heap[g]? = some (.cells cur t (0, 0)) → o + vs.length ≤ cur.size →
    ∃ cur' : Array Value, (w.setCells g o vs).heap[g]? = some (.cells cur' t (0, 0)) ∧ cur'.size = cur.size ∧ ∀ j, cur'[j]? = if o ≤ j ∧ j < o + vs.length then vs[j - o]? else cur[j]?
  | [], o, cur, w, h, _ => ⟨cur, h, rfl, fun j => by rw [if_neg (by simp)]⟩
  | v :: r, o, cur, w, h, hl => by
    have h1 : (w.setCell ⟨g, o, none⟩ v).heap[g]? = some (.cells (cur.setIfInBounds o v) t (0, 0)) := Has.put (t := t) (cs := cur) h o v
    obtain ⟨cur', h2, h3, h4⟩ := setCells_block g t r (o + 1) (cur.setIfInBounds o v) (w.setCell ⟨g, o, none⟩ v) h1 (by simp at hl ⊢; omega)
    refine ⟨cur', h2, by rw [h3]; simp, fun j => ?_⟩
    rw [h4 j]
    simp only [List.length_cons] at hl ⊢
    by_cases hj : o + 1 ≤ j ∧ j < o + 1 + r.length
    · rw [if_pos hj, if_pos (by omega), show j - o = (j - (o + 1)) + 1 by omega, List.getElem?_cons_succ]
    · rw [if_neg hj]
      by_cases hjo : j = o
      · subst hjo
        rw [if_pos (by omega), Nat.sub_self, List.getElem?_cons_zero, Array.getElem?_setIfInBounds_self_of_lt (by omega)]
      · rw [if_neg (by omega), Array.getElem?_setIfInBounds_ne (by omega)]
theorem setCells_other (g : Nat) : ∀ (vs : List Value) (o : Nat) (w : World) (k : Nat), k ≠ g → (w.setCells g o vs).heap[k]? = w.heap[k]?
  | [], _, _, _, _ => rfl
  | v :: r, o, w, k, h => by
    rw [World.setCells, setCells_other g r (o + 1) _ k h]
    exact Below.heap_setCell w ⟨g, o, none⟩ v k h
theorem setCells_size (g : Nat) : ∀ (vs : List Value) (o : Nat) (w : World), (w.setCells g o vs).heap.size = w.heap.size
  | [], _, _ => rfl
  | v :: r, o, w => by
    rw [World.setCells, setCells_size g r (o + 1) _]
    simp
theorem leaves_setCells (g : Nat) : ∀ (vs : List Value) (o : Nat) (w : World), Leaves (fun k => k = g) w (w.setCells g o vs)
  | [], _, w => Leaves.refl _ w
  | v :: r, o, w => (Leaves.one w g o v).trans (leaves_setCells g r (o + 1) _)
/-- element i is written -/
theorem Own.write {w : World} {base g n cap s i : Nat} {e : TypeId} {F G : Nat → Value} {vs : List Value} (h : Own w base g n cap s e F) (hl : vs.length = s) (hi : i < n)
    (hG : ∀ j, j < n * s → some (G j) = if i * s ≤ j ∧ j < i * s + s then vs[j - i * s]? else some (F j)) : Own (w.setCells g (i * s) vs) base g n cap s e G := by
  obtain ⟨cur, hh, h1, h2, h3, h4⟩ := h
  have hle := Nat.mul_le_mul_right s (show i + 1 ≤ cap by omega)
  rw [Nat.succ_mul] at hle
  obtain ⟨cur', g1, g2, g3⟩ := setCells_block g e vs (i * s) cur w hh (by rw [h3, hl]; omega)
  refine ⟨cur', g1, h1, h2, by rw [g2, h3], fun j hj => ?_⟩
  rw [g3 j, hl, hG j hj]
  by_cases c : i * s ≤ j ∧ j < i * s + s
  · rw [if_pos c, if_pos c]
  · rw [if_neg c, if_neg c]
    exact h4 j hj
theorem Own.there {w : World} {base g n cap s i : Nat} {e : TypeId} {F : Nat → Value} (h : Own w base g n cap s e F) (hi : i < n) : w.there g (i * s) s := fun j hj => by
  have hlt : i * s + j < n * s := by
    have := Nat.mul_le_mul_right s (show i + 1 ≤ n by omega)
    rw [Nat.succ_mul] at this
    omega
  exact ⟨by rw [h.cell hlt]; rfl, h.free _⟩
/-- a row that an append has made -/
theorem Own.made {w : World} {base s n : Nat} {e : TypeId} {v : Value} {F : Nat → Value} {xs : List Value} (h : w.ownsRow base e s v n xs) (hx : ∀ j, j < n * s → xs[j]? = some (F j)) :
    (v = .slice none 0 0 ∧ n = 0) ∨ ∃ g cap, v = .slice (some ⟨g, 0, none⟩) n cap ∧ Own w base g n cap s e F := by
  rcases h.2 with h0 | ⟨g, cap, cur, hv, hr⟩
  · exact .inl h0
  · refine .inr ⟨g, cap, hv, ?_⟩
    subst hv
    exact Own.of_row h hx
/-- where the structs i and j lie -/
theorem at_div {i s j : Nat} (hs : 0 < s) (hj : j < s) : (i * s + j) / s = i ∧ (i * s + j) % s = j := by
  constructor
  · rw [Nat.mul_comm, Nat.mul_add_div hs, Nat.div_eq_of_lt hj, Nat.add_zero]
  · rw [Nat.mul_comm, Nat.mul_add_mod, Nat.mod_eq_of_lt hj]
theorem div_at {i s j : Nat} (hs : 0 < s) : (i * s ≤ j ∧ j < i * s + s) ↔ j / s = i := by
  constructor
  · rintro ⟨h1, h2⟩
    obtain ⟨d, rfl⟩ : ∃ d, j = i * s + d := ⟨j - i * s, by omega⟩
    exact (at_div hs (by omega)).1
  · rintro rfl
    have h1 := Nat.div_add_mod j s
    have h2 := Nat.mod_lt j hs
    rw [Nat.mul_comm] at h1
    omega
end Go.Proofs.YtlbkhhbbkedhkaaGreatDoor
namespace Go.Proofs.YtlbkhhbbkedhkaaGreatDoor
open Go.RowKit
set_option linter.unusedVariables false

/-- a row that a call has made -/
def RowMade (n s : Nat) (e : TypeId) (F : Nat → Value) (w : World) (r : Ending) (w' : World) : Prop := ∃ v, r = .returned v ∧ w'.ownsRow w.heap.size e s v n (rowL (n * s) F) ∧ Below w.heap.size w w'

set_option maxRecDepth 100000 in
theorem ex_all : (Tryz.prog.info? 43).map (fun i => (i.zero, i.size, i.bytes)) = some (some (.agg #[.int .i64 0, .string ByteArray.empty, .slice none 0 0, .int .i64 0, .int .i64 0, .slice none 0 0]), 6, 88) := by kernel_rfl
set_option maxRecDepth 100000 in
set_option maxHeartbeats 1000000 in
theorem clone_ex (A : Option Addr) (n c : Nat) (F : Nat → Value) (w : World) (hn : n ≤ 1000) (h : Cells w w.heap.size A (n * 6) F) (h1 : ∀ j, j < n * 6 → (F j).oneCell' = true) :
    Calls Tryz.prog 83 #[.slice A n c] w (RowMade n 6 43 F w) := by
  have HX := Lib.hid h
  have HO := Lib.hid h1
  obtain ⟨i0, hi0, hz0, hz1, hz2⟩ := info_parts ex_all
  have HI := Lib.hid hi0
  have HZ0 := Lib.hid hz0
  have HZ1 := Lib.hid hz1
  have HZ2 := Lib.hid hz2
  clear h h1 hi0 hz0 hz1 hz2
  have q22 : ∀ (w : World) (a : Option Addr) (n c n' c' : Nat), (binOp .eql 41 (.slice a n c) (.slice none n' c')).run Tryz.prog w = .ok (.bool a.isNone) w := fun w a n c n' c' => Lib.run_eql_slice_nil w _ _ a n c n' c' Tryz.underlying41
  cases A with
  | none =>
    have hz : n = 0 := by
      rcases Nat.eq_zero_or_pos n with h | h
      · exact h
      · obtain ⟨ad, e, _⟩ := HX.out (by omega)
        cases e
    subst hz
    go_enter Tryz.func83, Tryz.ntmps83
    go_wp2_with fail
    go_ret
    exact ⟨_, rfl, ⟨rfl, .inl ⟨rfl, rfl⟩⟩, Below.refl _ _⟩
  | some ad =>
    have HOW : Hid ((w.alloc (.cells #[] 43)).ownsRow w.heap.size 43 6 (.slice (some ⟨w.heap.size, 0, none⟩) 0 0) 0 []) := Lib.hid (own_empty w _ _)
    have HB : Hid (Below w.heap.size w (w.alloc (.cells #[] 43))) := Lib.hid ((Below.refl _ _).alloc (Nat.le_refl _) _)
    go_enter Tryz.func83, Tryz.ntmps83
    go_wp2_with ((at_builtin; refine wpList_append_cells _ rfl _ _ 41 rfl w.heap.size 43 i0 _ 6 88 Tryz.underlying41 HI.out HZ0.out HZ1.out HZ2.out rfl (by omega) _ 0 [] rfl HOW.out w.heap.size (some ad) n c F rfl (Cells.below HX.out HB.out) (fun e => by cases e) HO.out (by unfold maxLen; omega) (by omega) (by simp) ?_; intro v' w2 hown hgrow hat))
    have HB2 : Hid (Below w.heap.size w w2) := Lib.hid (HB.out.grown hgrow HB.out.size (fun q hq => (own_lt HOW.out hq).2))
    rw [Nat.zero_add, List.nil_append] at hown
    have HOWN := Lib.hid hown
    clear hown hgrow hat HOW HB
    go_wp2_with fail
    go_ret
    exact ⟨_, rfl, HOWN.out, HB2.out⟩

set_option maxRecDepth 100000 in
theorem wb_all : (Tryz.prog.info? 97).map (fun i => (i.zero, i.size, i.bytes)) = some (some (.agg #[.string ByteArray.empty, .int .i64 0, .string ByteArray.empty, .slice none 0 0, .int .i64 0, .int .i64 0, .slice none 0 0, .slice none 0 0]), 8, 128) := by kernel_rfl
set_option maxRecDepth 100000 in
set_option maxHeartbeats 1000000 in
theorem clone_wb (A : Option Addr) (n c : Nat) (F : Nat → Value) (w : World) (hn : n ≤ 1000) (h : Cells w w.heap.size A (n * 8) F) (h1 : ∀ j, j < n * 8 → (F j).oneCell' = true) :
    Calls Tryz.prog 84 #[.slice A n c] w (RowMade n 8 97 F w) := by
  have HX := Lib.hid h
  have HO := Lib.hid h1
  obtain ⟨i0, hi0, hz0, hz1, hz2⟩ := info_parts wb_all
  have HI := Lib.hid hi0
  have HZ0 := Lib.hid hz0
  have HZ1 := Lib.hid hz1
  have HZ2 := Lib.hid hz2
  clear h h1 hi0 hz0 hz1 hz2
  have q22 : ∀ (w : World) (a : Option Addr) (n c n' c' : Nat), (binOp .eql 44 (.slice a n c) (.slice none n' c')).run Tryz.prog w = .ok (.bool a.isNone) w := fun w a n c n' c' => Lib.run_eql_slice_nil w _ _ a n c n' c' Tryz.underlying44
  cases A with
  | none =>
    have hz : n = 0 := by
      rcases Nat.eq_zero_or_pos n with h | h
      · exact h
      · obtain ⟨ad, e, _⟩ := HX.out (by omega)
        cases e
    subst hz
    go_enter Tryz.func84, Tryz.ntmps84
    go_wp2_with fail
    go_ret
    exact ⟨_, rfl, ⟨rfl, .inl ⟨rfl, rfl⟩⟩, Below.refl _ _⟩
  | some ad =>
    have HOW : Hid ((w.alloc (.cells #[] 97)).ownsRow w.heap.size 97 8 (.slice (some ⟨w.heap.size, 0, none⟩) 0 0) 0 []) := Lib.hid (own_empty w _ _)
    have HB : Hid (Below w.heap.size w (w.alloc (.cells #[] 97))) := Lib.hid ((Below.refl _ _).alloc (Nat.le_refl _) _)
    go_enter Tryz.func84, Tryz.ntmps84
    go_wp2_with ((at_builtin; refine wpList_append_cells _ rfl _ _ 44 rfl w.heap.size 97 i0 _ 8 128 Tryz.underlying44 HI.out HZ0.out HZ1.out HZ2.out rfl (by omega) _ 0 [] rfl HOW.out w.heap.size (some ad) n c F rfl (Cells.below HX.out HB.out) (fun e => by cases e) HO.out (by unfold maxLen; omega) (by omega) (by simp) ?_; intro v' w2 hown hgrow hat))
    have HB2 : Hid (Below w.heap.size w w2) := Lib.hid (HB.out.grown hgrow HB.out.size (fun q hq => (own_lt HOW.out hq).2))
    rw [Nat.zero_add, List.nil_append] at hown
    have HOWN := Lib.hid hown
    clear hown hgrow hat HOW HB
    go_wp2_with fail
    go_ret
    exact ⟨_, rfl, HOWN.out, HB2.out⟩

set_option maxRecDepth 100000 in
theorem cl_all : (Tryz.prog.info? 46).map (fun i => (i.zero, i.size, i.bytes)) = some (some (.agg #[.int .i64 0, .string ByteArray.empty, .int .i64 0, .string ByteArray.empty, .slice none 0 0, .int .i64 0, .int .i64 0, .slice none 0 0, .slice none 0 0, .int .i64 0]), 10, 144) := by kernel_rfl
set_option maxRecDepth 100000 in
set_option maxHeartbeats 1000000 in
theorem clone_cl (A : Option Addr) (n c : Nat) (F : Nat → Value) (w : World) (hn : n ≤ 1000) (h : Cells w w.heap.size A (n * 10) F) (h1 : ∀ j, j < n * 10 → (F j).oneCell' = true) :
    Calls Tryz.prog 25 #[.slice A n c] w (RowMade n 10 46 F w) := by
  have HX := Lib.hid h
  have HO := Lib.hid h1
  obtain ⟨i0, hi0, hz0, hz1, hz2⟩ := info_parts cl_all
  have HI := Lib.hid hi0
  have HZ0 := Lib.hid hz0
  have HZ1 := Lib.hid hz1
  have HZ2 := Lib.hid hz2
  clear h h1 hi0 hz0 hz1 hz2
  have q22 : ∀ (w : World) (a : Option Addr) (n c n' c' : Nat), (binOp .eql 22 (.slice a n c) (.slice none n' c')).run Tryz.prog w = .ok (.bool a.isNone) w := fun w a n c n' c' => Lib.run_eql_slice_nil w _ _ a n c n' c' Tryz.underlying22
  cases A with
  | none =>
    have hz : n = 0 := by
      rcases Nat.eq_zero_or_pos n with h | h
      · exact h
      · obtain ⟨ad, e, _⟩ := HX.out (by omega)
        cases e
    subst hz
    go_enter Tryz.func25, Tryz.ntmps25
    go_wp2_with fail
    go_ret
    exact ⟨_, rfl, ⟨rfl, .inl ⟨rfl, rfl⟩⟩, Below.refl _ _⟩
  | some ad =>
    have HOW : Hid ((w.alloc (.cells #[] 46)).ownsRow w.heap.size 46 10 (.slice (some ⟨w.heap.size, 0, none⟩) 0 0) 0 []) := Lib.hid (own_empty w _ _)
    have HB : Hid (Below w.heap.size w (w.alloc (.cells #[] 46))) := Lib.hid ((Below.refl _ _).alloc (Nat.le_refl _) _)
    go_enter Tryz.func25, Tryz.ntmps25
    go_wp2_with ((at_builtin; refine wpList_append_cells _ rfl _ _ 22 rfl w.heap.size 46 i0 _ 10 144 Tryz.underlying22 HI.out HZ0.out HZ1.out HZ2.out rfl (by omega) _ 0 [] rfl HOW.out w.heap.size (some ad) n c F rfl (Cells.below HX.out HB.out) (fun e => by cases e) HO.out (by unfold maxLen; omega) (by omega) (by simp) ?_; intro v' w2 hown hgrow hat))
    have HB2 : Hid (Below w.heap.size w w2) := Lib.hid (HB.out.grown hgrow HB.out.size (fun q hq => (own_lt HOW.out hq).2))
    rw [Nat.zero_add, List.nil_append] at hown
    have HOWN := Lib.hid hown
    clear hown hgrow hat HOW HB
    go_wp2_with fail
    go_ret
    exact ⟨_, rfl, HOWN.out, HB2.out⟩
end Go.Proofs.YtlbkhhbbkedhkaaGreatDoor
namespace Go.Proofs.YtlbkhhbbkedhkaaGreatDoor
open Go.RowKit
set_option linter.unusedVariables false
attribute [local go_sem ↓] exec_load_ex

theorem ExPtr.of {w : World} {b o : Nat} {e : Ex} {a : EA} (h : w.rangeAt b o (e.cells a).toList) : ExPtr w (.pointer (some ⟨b, o, none⟩)) (e.cells a) := ⟨b, o, rfl, h, Ex.cells_size e a⟩
theorem range_below {w W : World} {b o B : Nat} {cs : List Value} (h : w.rangeAt b o cs) (hb : Below B w W) (hB : b < B) : W.rangeAt b o cs := fun j v hj => by rw [hb.cell (p := ⟨b, o + j, none⟩) hB]; exact h j v hj
theorem range_lt {w : World} {b o : Nat} {e : Ex} {a : EA} (h : w.rangeAt b o (e.cells a).toList) : b < w.heap.size := cell_lt (h 0 _ (Ex.cells_get e a 0 (by omega)))
/-- what a region that loads an expression is told -/
def ExS (w : World) (v : Value) (cs : Array Value) : Prop := (∃ c, ExPtr w v c) ∧ exCells w v = cs
theorem ExS.of {w : World} {b o : Nat} {e : Ex} {a : EA} (h : w.rangeAt b o (e.cells a).toList) : ExS w (.pointer (some ⟨b, o, none⟩)) (e.cells a) := ⟨⟨_, ExPtr.of h⟩, (ExPtr.of h).cells⟩

set_option maxRecDepth 100000 in
set_option maxHeartbeats 4000000 in
theorem rsame_yes (e : Ex) : ∀ (a a2 : EA) (w : World), ExAt w w.heap.size e a → ExAt w w.heap.size e a2 → Calls Tryz.prog 30 #[.agg (e.cells a), .agg (e.cells a2)] w (BolPost true w) := by
  induction e with
  | bot => exact fun a a2 w h => h.elim
  | mk op name nw ws lo hi na xs ih =>
    intro a a2 w hx hx2
    have IH := Lib.hid ih
    have HX := Lib.hid hx
    have HX2 := Lib.hid hx2
    obtain ⟨⟨hnw, _⟩, ⟨hna, _⟩, hst, _⟩ := hx
    obtain ⟨_, _, hst2, _⟩ := hx2
    obtain ⟨Aw, cw, Aa, ca⟩ := a
    obtain ⟨Aw2, cw2, Aa2, ca2⟩ := a2
    have HST := Lib.hid (And.intro hst hst2)
    have HWN := Lib.hid hnw
    clear ih hst hst2 hnw
    unfold Ex.cells Ex.row
    simp only at HST ⊢
    unfold big at hna
    have he : (name.toList == name.toList) = true := by simp
    go_enter Tryz.func30, Tryz.ntmps30
    go_upto_region 1 with (fail)
    have HB : Hid (Below w.heap.size w ((w.alloc (.cells #[.int .i64 op, .string name, .slice Aw nw cw, .int .i64 lo, .int .i64 hi, .slice Aa na ca] 43)).alloc (.cells #[.int .i64 op, .string name, .slice Aw2 nw cw2, .int .i64 lo, .int .i64 hi, .slice Aa2 na ca2] 43))) := Lib.hid (below_two _ _ _)
    have HE := Lib.hid ((Has.new w #[.int .i64 op, .string name, .slice Aw nw cw, .int .i64 lo, .int .i64 hi, .slice Aa na ca] 43).alloc (.cells #[.int .i64 op, .string name, .slice Aw2 nw cw2, .int .i64 lo, .int .i64 hi, .slice Aa2 na ca2] 43))
    have HE2 := Lib.hid (Has.new' (w.alloc (.cells #[.int .i64 op, .string name, .slice Aw nw cw, .int .i64 lo, .int .i64 hi, .slice Aa na ca] 43)) (w.heap.size + 1) #[.int .i64 op, .string name, .slice Aw2 nw cw2, .int .i64 lo, .int .i64 hi, .slice Aa2 na ca2] 43 (by simp))
    obtain ⟨W, hW⟩ : ∃ W, (w.alloc (.cells #[.int .i64 op, .string name, .slice Aw nw cw, .int .i64 lo, .int .i64 hi, .slice Aa na ca] 43)).alloc (.cells #[.int .i64 op, .string name, .slice Aw2 nw cw2, .int .i64 lo, .int .i64 hi, .slice Aa2 na ca2] 43) = W := ⟨_, rfl⟩
    rw [hW] at HB HE HE2 ⊢
    clear hW
    obtain ⟨G, hG⟩ : ∃ G, w.heap.size = G := ⟨_, rfl⟩
    have HGE := Lib.hid hG
    obtain ⟨G2, hG2⟩ : ∃ G2, w.heap.size + 1 = G2 := ⟨_, rfl⟩
    rw [hG2] at HE2 ⊢
    rw [hG] at HE ⊢
    have hgw : w.heap.size ≤ G2 := by omega
    clear hG hG2
    obtain ⟨e0, e1, e2⟩ := HE.out.rules
    obtain ⟨f0, f1, f2⟩ := HE2.out.rules
    have HSW := Lib.hid (samewords_yes Aw Aw2 nw cw cw2 ws W.heap.size W.heap.size W HWN.out ((Cells.below HST.out.1 HB.out).mono HB.out.size) ((Cells.below HST.out.2 HB.out).mono HB.out.size))
    go_wp2_with fail
    refine HSW.out.mono ?_
    rintro e w5 ⟨rfl, m, hw5⟩
    have HB5 : Hid (Below w.heap.size w w5) := Lib.hid (by rw [hw5]; exact below_drewN HB.out m)
    have HE5 : Hid (Has w5 G #[.int .i64 op, .string name, .slice Aw nw cw, .int .i64 lo, .int .i64 hi, .slice Aa na ca] 43) := Lib.hid (by rw [hw5]; exact HE.out.drewN m)
    have HF5 : Hid (Has w5 G2 #[.int .i64 op, .string name, .slice Aw2 nw cw2, .int .i64 lo, .int .i64 hi, .slice Aa2 na ca2] 43) := Lib.hid (by rw [hw5]; exact HE2.out.drewN m)
    clear hw5 HB HE HE2 HSW e0 e1 e2 f0 f1 f2
    obtain ⟨e0, e1, e2⟩ := HE5.out.rules
    obtain ⟨f0, f1, f2⟩ := HF5.out.rules
    go_wp2_with fail
    go_loopw [5] (fun i wr => ∃ k : Nat, k ≤ na ∧ i = .int .i64 k ∧ Hid (Below w.heap.size w wr) ∧ Hid (Has wr G #[.int .i64 op, .string name, .slice Aw nw cw, .int .i64 lo, .int .i64 hi, .slice Aa na ca] 43) ∧ Hid (Has wr G2 #[.int .i64 op, .string name, .slice Aw2 nw cw2, .int .i64 lo, .int .i64 hi, .slice Aa2 na ca2] 43)) (fun i _ => na - (intOf i).toNat)
    case atStart => exact ⟨0, Nat.zero_le _, rfl, HB5, HE5, HF5⟩
    case round =>
      clear HB5 HE5 HF5 e0 e1 e2 f0 f1 f2
      obtain ⟨k, hk, rfl, HB, HE, HF⟩ := hrel
      obtain ⟨e0, e1, e2⟩ := HE.out.rules
      obtain ⟨f0, f1, f2⟩ := HF.out.rules
      by_cases hlt : k < na
      · obtain ⟨pa, bb, o, hAa, hxk, hrg⟩ := HX.out.later HB.out hlt
        obtain ⟨pa2, bb2, o2, hAa2, hxk2, hrg2⟩ := HX2.out.later HB.out hlt
        subst hAa hAa2
        have HRG := Lib.hid (And.intro hrg hrg2)
        have HCALL : Hid (∀ W, Below wr.heap.size wr W → Calls Tryz.prog 30 #[.agg ((xs k).cells pa), .agg ((xs k).cells pa2)] W (BolPost true W)) := Lib.hid fun W hb => IH.out k pa pa2 W (hxk.below hb hb.size) (hxk2.below hb hb.size)
        obtain ⟨y, hy⟩ : ∃ y, xs k = y := ⟨_, rfl⟩
        rw [hy] at HRG HCALL
        have hk0 : (0 : Int) ≤ k := by omega
        have hk1 : (k : Int) < na := by omega
        have HS0 : Hid (∀ W, Below wr.heap.size wr W → ExS W (.pointer (some ⟨bb, o + k * 6, none⟩)) (y.cells pa) ∧ ExS W (.pointer (some ⟨bb2, o2 + k * 6, none⟩)) (y.cells pa2)) := Lib.hid fun W hb => ⟨ExS.of (range_below HRG.out.1 hb (range_lt HRG.out.1)), ExS.of (range_below HRG.out.2 hb (range_lt HRG.out.2))⟩
        clear hrg hrg2 hxk hxk2 hy
        obtain ⟨Y, hY⟩ : ∃ z, y.cells pa = z := ⟨_, rfl⟩
        obtain ⟨Y2, hY2⟩ : ∃ z, y.cells pa2 = z := ⟨_, rfl⟩
        rw [hY, hY2] at HRG HCALL HS0
        clear hY hY2
        have HS1 : Hid (∀ W, Below wr.heap.size wr W → W.cell? ⟨G, 5, none⟩ = some (.slice (some ⟨bb, o, none⟩) na ca) ∧ W.cell? ⟨G2, 5, none⟩ = some (.slice (some ⟨bb2, o2, none⟩) na ca2)) := Lib.hid fun W hb => ⟨by rw [(HE.out.below hb HE.out.lt).cell]; rfl, by rw [(HF.out.below hb HF.out.lt).cell]; rfl⟩
        have HBB : Hid (Below wr.heap.size wr wr) := Lib.hid (Below.refl _ _)
        have HSS : Hid (∀ W, Below wr.heap.size wr W → W.cell? ⟨G, 5, none⟩ = some (.slice (some ⟨bb, o, none⟩) na ca) ∧ W.cell? ⟨G2, 5, none⟩ = some (.slice (some ⟨bb2, o2, none⟩) na ca2) ∧ (∃ c, ExPtr W (.pointer (some ⟨bb, o + k * 6, none⟩)) c) ∧ exCells W (.pointer (some ⟨bb, o + k * 6, none⟩)) = Y ∧ (∃ c, ExPtr W (.pointer (some ⟨bb2, o2 + k * 6, none⟩)) c) ∧ exCells W (.pointer (some ⟨bb2, o2 + k * 6, none⟩)) = Y2) := Lib.hid fun W hb => ⟨(HS1.out W hb).1, (HS1.out W hb).2, (HS0.out W hb).1.1, (HS0.out W hb).1.2, (HS0.out W hb).2.1, (HS0.out W hb).2.2⟩
        have he2 := e2
        have hf2 := f2
        clear HS0 HS1
        go_wp2_with fail
        clear e0 e1 e2 f0 f1 f2
        go_region_held3 (fun w' => w'.cell? ⟨G, 5, none⟩ = some (.slice (some ⟨bb, o, none⟩) na ca) ∧ w'.cell? ⟨G2, 5, none⟩ = some (.slice (some ⟨bb2, o2, none⟩) na ca2) ∧ (∃ c, ExPtr w' (.pointer (some ⟨bb, o + k * 6, none⟩)) c) ∧ exCells w' (.pointer (some ⟨bb, o + k * 6, none⟩)) = Y ∧ (∃ c, ExPtr w' (.pointer (some ⟨bb2, o2 + k * 6, none⟩)) c) ∧ exCells w' (.pointer (some ⟨bb2, o2 + k * 6, none⟩)) = Y2) (first | exact HSS.out _ HBB.out | exact HSS.out _ (below_drew HBB.out)) (first
          | (go_at_call 30; refine (HCALL.out _ ?hh).mono ?_; (case hh => first | exact HBB.out | exact below_drew HBB.out); rintro e w5 ⟨rfl, hb5⟩; replace HBB : Hid (Below wr.heap.size wr w5) := Lib.hid (by first | exact HBB.out.trans (hb5.mono HBB.out.size) | exact (below_drew HBB.out).trans (hb5.mono HBB.out.size)); clear hb5))
        replace HB := Lib.hid (HB.out.trans (HBB.out.mono HB.out.size))
        replace HE := Lib.hid (HE.out.below HBB.out he2)
        replace HF := Lib.hid (HF.out.below HBB.out hf2)
        clear HSS HBB HCALL
        go_wp2_with fail
        go_roundw
        case rel => exact ⟨k + 1, by omega, by go_num, HB, HE, HF⟩
        case measure => simp [intOf]; omega
      · have hkn : k = na := by omega
        subst hkn
        have hdd : decide ((k : Int) < k) = false := by rw [decide_eq_false_iff_not]; omega
        go_wp2_with fail
        go_ret
        exact ⟨rfl, HB.out⟩
end Go.Proofs.YtlbkhhbbkedhkaaGreatDoor
namespace Go.Proofs.YtlbkhhbbkedhkaaGreatDoor
open Go.RowKit
set_option linter.unusedVariables false
attribute [local go_sem ↓] exec_load_ex

/-- what a region that compares two write-backs is told -/
def WbS (w : World) (nm : ByteArray) (Y : Array Value) (yn : Nat) (bb o : Nat) (pA : Option Addr) (pc : Nat) : Prop :=
  w.cell? ⟨bb, o, none⟩ = some (.string nm) ∧ ExS w (.pointer (some ⟨bb, o + 1, none⟩)) Y ∧ w.cell? ⟨bb, o + 7, none⟩ = some (.slice pA yn pc)
theorem WbS.of {w : World} {b o : Nat} {u : Wb} {a : WA} (h : w.rangeAt b o (u.cells a).toList) : WbS w u.name (u.e.cells a.ea) u.n b o a.A a.c := ⟨Wb.slotN h, ExS.of (Wb.slotE h), Wb.slot h⟩

set_option maxRecDepth 100000 in
set_option maxHeartbeats 4000000 in
theorem rsamebacks_yes (b : Wb) : ∀ (A A2 : Option Addr) (c c2 : Nat) (w : World), WbsAt w w.heap.size A b.n b.us → WbsAt w w.heap.size A2 b.n b.us →
    Calls Tryz.prog 31 #[.slice A b.n c, .slice A2 b.n c2] w (BolPost true w) := by
  induction b using Wb.recL with
  | bot h => exact h
  | mk name e n us ih =>
    intro A A2 c c2 w hx hx2
    show Calls Tryz.prog 31 #[.slice A n c, .slice A2 n c2] w (BolPost true w)
    have IH := Lib.hid ih
    have HX : Hid (WbsAt w w.heap.size A n us) := Lib.hid hx
    have HX2 : Hid (WbsAt w w.heap.size A2 n us) := Lib.hid hx2
    have hn := hx.1
    have hn : n ≤ big := hn
    clear ih hx hx2
    unfold big at hn
    go_enter Tryz.func31, Tryz.ntmps31
    go_wp2_with fail
    go_loopw [5] (fun i wr => ∃ k : Nat, k ≤ n ∧ i = .int .i64 k ∧ Hid (Below w.heap.size w wr)) (fun i _ => n - (intOf i).toNat)
    case atStart => exact ⟨0, Nat.zero_le _, rfl, Lib.hid (Below.refl _ _)⟩
    case round =>
      obtain ⟨k, hk, rfl, HB⟩ := hrel
      by_cases hlt : k < n
      · obtain ⟨P, hP⟩ := HX.out.args
        obtain ⟨P2, hP2⟩ := HX2.out.args
        obtain ⟨⟨hxe, hxu⟩, bb, o, hAa, hbb, hrg⟩ := hP k hlt
        obtain ⟨⟨hxe2, hxu2⟩, bb2, o2, hAa2, hbb2, hrg2⟩ := hP2 k hlt
        subst hAa hAa2
        have hs := HB.out.size
        have HS0 : Hid (∀ W, Below wr.heap.size wr W → WbS W (us k).name ((us k).e.cells (P k).ea) (us k).n bb (o + k * 8) (P k).A (P k).c ∧ WbS W (us k).name ((us k).e.cells (P2 k).ea) (us k).n bb2 (o2 + k * 8) (P2 k).A (P2 k).c) := Lib.hid fun W hb =>
          have hb2 := HB.out.trans (hb.mono hs)
          ⟨WbS.of (range_below hrg hb2 hbb), WbS.of (range_below hrg2 hb2 hbb2)⟩
        have HC1 : Hid (∀ W, Below wr.heap.size wr W → Calls Tryz.prog 30 #[.agg ((us k).e.cells (P k).ea), .agg ((us k).e.cells (P2 k).ea)] W (BolPost true W)) := Lib.hid fun W hb =>
          have hb2 := HB.out.trans (hb.mono hs)
          rsame_yes (us k).e _ _ W (hxe.below hb2 hb2.size) (hxe2.below hb2 hb2.size)
        have HC2 : Hid (∀ W, Below wr.heap.size wr W → Calls Tryz.prog 31 #[.slice (P k).A (us k).n (P k).c, .slice (P2 k).A (us k).n (P2 k).c] W (BolPost true W)) := Lib.hid fun W hb =>
          have hb2 := HB.out.trans (hb.mono hs)
          IH.out k hlt _ _ _ _ W (hxu.below hb2 hb2.size) (hxu2.below hb2 hb2.size)
        obtain ⟨nm, hnm⟩ : ∃ z, (us k).name = z := ⟨_, rfl⟩
        obtain ⟨Y, hY⟩ : ∃ z, (us k).e.cells (P k).ea = z := ⟨_, rfl⟩
        obtain ⟨Y2, hY2⟩ : ∃ z, (us k).e.cells (P2 k).ea = z := ⟨_, rfl⟩
        obtain ⟨yn, hyn⟩ : ∃ z, (us k).n = z := ⟨_, rfl⟩
        obtain ⟨pA, hpA⟩ : ∃ z, (P k).A = z := ⟨_, rfl⟩
        obtain ⟨pc, hpc⟩ : ∃ z, (P k).c = z := ⟨_, rfl⟩
        obtain ⟨pA2, hpA2⟩ : ∃ z, (P2 k).A = z := ⟨_, rfl⟩
        obtain ⟨pc2, hpc2⟩ : ∃ z, (P2 k).c = z := ⟨_, rfl⟩
        rw [hnm, hY, hY2, hyn, hpA, hpc, hpA2, hpc2] at HS0
        rw [hY, hY2] at HC1
        rw [hyn, hpA, hpc, hpA2, hpc2] at HC2
        clear hxe hxu hxe2 hxu2 hP hP2 hrg hrg2 hnm hY hY2 hyn hpA hpc hpA2 hpc2
        have he : (nm.toList == nm.toList) = true := by simp
        have hk0 : (0 : Int) ≤ k := by omega
        have hk1 : (k : Int) < n := by omega
        have HBB : Hid (Below wr.heap.size wr wr) := Lib.hid (Below.refl _ _)
        have HSS : Hid (∀ W, Below wr.heap.size wr W → W.cell? ⟨bb, o + k * 8, none⟩ = some (.string nm) ∧ W.cell? ⟨bb2, o2 + k * 8, none⟩ = some (.string nm) ∧ (∃ c, ExPtr W (.pointer (some ⟨bb, o + k * 8 + 1, none⟩)) c) ∧ exCells W (.pointer (some ⟨bb, o + k * 8 + 1, none⟩)) = Y ∧ (∃ c, ExPtr W (.pointer (some ⟨bb2, o2 + k * 8 + 1, none⟩)) c) ∧ exCells W (.pointer (some ⟨bb2, o2 + k * 8 + 1, none⟩)) = Y2 ∧ W.cell? ⟨bb, o + k * 8 + 7, none⟩ = some (.slice pA yn pc) ∧ W.cell? ⟨bb2, o2 + k * 8 + 7, none⟩ = some (.slice pA2 yn pc2)) :=
          Lib.hid fun W hb => ⟨(HS0.out W hb).1.1, (HS0.out W hb).2.1, (HS0.out W hb).1.2.1.1, (HS0.out W hb).1.2.1.2, (HS0.out W hb).2.2.1.1, (HS0.out W hb).2.2.1.2, (HS0.out W hb).1.2.2, (HS0.out W hb).2.2.2⟩
        clear HS0
        go_wp2_with fail
        go_region_held3 (fun W => W.cell? ⟨bb, o + k * 8, none⟩ = some (.string nm) ∧ W.cell? ⟨bb2, o2 + k * 8, none⟩ = some (.string nm) ∧ (∃ c, ExPtr W (.pointer (some ⟨bb, o + k * 8 + 1, none⟩)) c) ∧ exCells W (.pointer (some ⟨bb, o + k * 8 + 1, none⟩)) = Y ∧ (∃ c, ExPtr W (.pointer (some ⟨bb2, o2 + k * 8 + 1, none⟩)) c) ∧ exCells W (.pointer (some ⟨bb2, o2 + k * 8 + 1, none⟩)) = Y2 ∧ W.cell? ⟨bb, o + k * 8 + 7, none⟩ = some (.slice pA yn pc) ∧ W.cell? ⟨bb2, o2 + k * 8 + 7, none⟩ = some (.slice pA2 yn pc2)) (first | exact HSS.out _ HBB.out | exact HSS.out _ (below_drew HBB.out)) (first
          | (go_at_call 30; refine (HC1.out _ ?hh).mono ?_; (case hh => first | exact HBB.out | exact below_drew HBB.out); rintro e w5 ⟨rfl, hb5⟩; replace HBB : Hid (Below wr.heap.size wr w5) := Lib.hid (by first | exact HBB.out.trans (hb5.mono HBB.out.size) | exact (below_drew HBB.out).trans (hb5.mono HBB.out.size)); clear hb5)
          | (go_at_call 31; refine (HC2.out _ ?hh).mono ?_; (case hh => first | exact HBB.out | exact below_drew HBB.out); rintro e w6 ⟨rfl, hb6⟩; replace HBB : Hid (Below wr.heap.size wr w6) := Lib.hid (by first | exact HBB.out.trans (hb6.mono HBB.out.size) | exact (below_drew HBB.out).trans (hb6.mono HBB.out.size)); clear hb6))
        replace HB := Lib.hid (HB.out.trans (HBB.out.mono hs))
        clear HSS HBB HC1 HC2
        go_wp2_with fail
        go_roundw
        case rel => exact ⟨k + 1, by omega, by go_num, HB⟩
        case measure => simp [intOf]; omega
      · have hkn : k = n := by omega
        subst hkn
        have hdd : decide ((k : Int) < k) = false := by rw [decide_eq_false_iff_not]; omega
        go_wp2_with fail
        go_ret
        exact ⟨rfl, HB.out⟩
end Go.Proofs.YtlbkhhbbkedhkaaGreatDoor
