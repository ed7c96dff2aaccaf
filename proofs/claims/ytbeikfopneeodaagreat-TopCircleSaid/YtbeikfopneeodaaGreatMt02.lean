/- A slice of structs of two numbers that the call has appended together. No program in sight. A row of numbers that the call has appended together, as a function. No program in sight. Worlds that differ in some of the blocks. No program in sight. A row of structs that the call owns, as a function of its cells. No program in sight. -/
import Derived.Test.YtbeikfopneeodaaGreatMt01
import Derived.Laws.CopyRow
import Derived.Deep.MidRow
import Derived.Deep.WholeRow
import Derived.Laws.CopyOwn
import Derived.Deep.AppendLies
import Derived.Maps.AppendAt
namespace Go.Proofs.YtbeikfopneeodaaGreat
open Go.RowKit

def fstOf (ps : List (Int × Int)) (j : Nat) : Int := (ps.getD j (0, 0)).1
def sndOf (ps : List (Int × Int)) (j : Nat) : Int := (ps.getD j (0, 0)).2
def cellsOf (ps : List (Int × Int)) : List Value := ps.flatMap fun a => [.int .i64 a.1, .int .i64 a.2]

theorem cellsOf_snoc (ps : List (Int × Int)) (a : Int × Int) : cellsOf (ps ++ [a]) = cellsOf ps ++ [.int .i64 a.1, .int .i64 a.2] := by simp [cellsOf]
theorem cellsOf_length (ps : List (Int × Int)) : (cellsOf ps).length = ps.length * 2 := by
  induction ps with
  | nil => rfl
  | cons a t ih =>
    have : cellsOf (a :: t) = .int .i64 a.1 :: .int .i64 a.2 :: cellsOf t := by simp [cellsOf]
    rw [this]; simp only [List.length_cons, ih]; omega
theorem cellsOf_get (ps : List (Int × Int)) (j : Nat) (h : j < ps.length * 2) : (cellsOf ps)[j]? = some (pairAt (fstOf ps) (sndOf ps) j) := by
  induction ps generalizing j with
  | nil => simp at h
  | cons a t ih =>
    have e : cellsOf (a :: t) = .int .i64 a.1 :: .int .i64 a.2 :: cellsOf t := by simp [cellsOf]
    rw [e]
    match j, h with
    | 0, _ => rfl
    | 1, _ => rfl
    | j + 2, h =>
      simp only [List.length_cons] at h
      have := ih j (by omega)
      simp only [List.getElem?_cons_succ, this]
      unfold pairAt fstOf sndOf
      rw [show (j + 2) % 2 = j % 2 by omega, show (j + 2) / 2 = j / 2 + 1 by omega]
      simp

theorem Pairs.of_own {w : World} {base : Nat} {e : TypeId} {n c : Nat} {A : Option Addr} {ps : List (Int × Int)} (h : w.ownsRow base e 2 (.slice A n c) n (cellsOf ps)) : Pairs w w.heap.size A n (fstOf ps) (sndOf ps) :=
  Cells.of_own h _ fun j hj => by
    have h1 := cellsOf_get ps j (by rw [← cellsOf_length]; exact hj)
    rw [List.getElem?_eq_getElem hj] at h1
    injection h1

theorem Keeps.grown {b : Nat} {a w w' : World} {row : Option Nat} (h : Keeps b a w) (hg : w.grownBy w' row) (hr : ∀ k, row = some k → a.heap.size ≤ k) : Keeps b a w' := by
  have hb : Below a.heap.size w w' := (Below.refl a.heap.size w).grown hg h.size hr
  exact ⟨hb.os.trans h.os, hb.tape.trans h.tape, hb.output.trans h.output, Nat.le_trans h.size hb.size, fun k hk hn => (hb.block k hk).trans (h.block k hk hn)⟩

/-- cells of a block that a deck's function leaves alone -/
theorem Cells.keeps_ne {b n : Nat} {w w' : World} {A : Option Addr} {f : Nat → Value} (h : Cells w w.heap.size A n f) (hk : Keeps b w w') (hA : ∀ ad, A = some ad → ad.block ≠ b) : Cells w' w'.heap.size A n f := fun hn => by
  obtain ⟨ad, e, hlt, hc⟩ := h hn
  exact ⟨ad, e, Nat.lt_of_lt_of_le hlt hk.size, fun j hj => by
    have h1 := hc j hj
    exact (World.cell?_of_block (w := w) (hk.block _ (by rw [add_block]; exact hlt) (by rw [add_block]; exact hA ad e))).trans h1⟩
theorem Pairs.keeps_ne {b n : Nat} {w w' : World} {A : Option Addr} {f g : Nat → Int} (h : Pairs w w.heap.size A n f g) (hk : Keeps b w w') (hA : ∀ ad, A = some ad → ad.block ≠ b) : Pairs w' w'.heap.size A n f g := Cells.keeps_ne h hk hA

theorem own_keeps {b base size n : Nat} {e : TypeId} {v : Value} {xs : List Value} {w w' : World} (h : w.ownsRow base e size v n xs) (hk : Keeps b w w') (hb : b < base) : w'.ownsRow base e size v n xs := by
  refine ⟨h.1, ?_⟩
  rcases h.2 with h0 | ⟨g, cap, cur, hv, hg, hh, hr⟩
  · exact .inl h0
  · have hlt : g < w.heap.size := Has.lt (t := e) (cs := cur) hh
    exact .inr ⟨g, cap, cur, hv, hg, (hk.block g hlt (by omega)).trans hh, hr⟩
theorem own_below {base size n : Nat} {e : TypeId} {v : Value} {xs : List Value} {w w' : World} (h : w.ownsRow base e size v n xs) (hb : Below w.heap.size w w') : w'.ownsRow base e size v n xs := by
  refine ⟨h.1, ?_⟩
  rcases h.2 with h0 | ⟨g, cap, cur, hv, hg, hh, hr⟩
  · exact .inl h0
  · have hlt : g < w.heap.size := Has.lt (t := e) (cs := cur) hh
    exact .inr ⟨g, cap, cur, hv, hg, (hb.block g hlt).trans hh, hr⟩
end Go.Proofs.YtbeikfopneeodaaGreat
namespace Go.Proofs.YtbeikfopneeodaaGreat
open Go.RowKit

def numsL (n : Nat) (F : Nat → Int) : List Value := (List.range n).map fun i => .int .i64 (F i)
theorem numsL_length (n : Nat) (F : Nat → Int) : (numsL n F).length = n := by simp [numsL]
theorem numsL_get (n : Nat) (F : Nat → Int) (j : Nat) (h : j < n) : (numsL n F)[j]? = some (.int .i64 (F j)) := by simp [numsL, h]
theorem numsL_set (n : Nat) (F : Nat → Int) (k : Nat) (z : Int) : (numsL n F).set k (.int .i64 z) = numsL n fun i => if i = k then z else F i := by
  apply List.ext_getElem?
  intro j
  by_cases hj : j < n
  · by_cases e : k = j
    · subst e
      rw [List.getElem?_set_self (by rw [numsL_length]; exact hj), numsL_get n _ k hj]
      simp
    · rw [List.getElem?_set_ne e, numsL_get n _ j hj, numsL_get n _ j hj]
      simp only [if_neg (Ne.symm e)]
  · rw [List.getElem?_eq_none (by simp [numsL]; omega), List.getElem?_eq_none (by simp [numsL]; omega)]
theorem numsL_congr {n : Nat} {F G : Nat → Int} (h : ∀ i, i < n → F i = G i) : numsL n F = numsL n G := by
  apply List.map_congr_left
  intro i hi
  rw [h i (List.mem_range.1 hi)]
theorem numsL_one (n : Nat) (F : Nat → Int) : ∀ u ∈ numsL n F, u.oneCell' = true := fun u hu => by
  obtain ⟨i, _, rfl⟩ := List.mem_map.1 hu
  rfl
theorem Nums.news {w : World} {B n : Nat} {ad : Addr} {F : Nat → Int} (h : Nums w B (some ad) n F) : ∀ j u, (numsL n F)[j]? = some u → w.cell? (ad.add j) = some u := fun j u hu => by
  have hj : j < n := by
    rcases Nat.lt_or_ge j n with h | h
    · exact h
    · rw [List.getElem?_eq_none (by rw [numsL_length]; exact h)] at hu; cases hu
  obtain ⟨ad', e, _, hc⟩ := Cells.get h hj
  injection e with e
  subst e
  rw [hc, ← hu, numsL_get n F j hj]

/-- the call owns n numbers in block g -/
def OwnN (w : World) (base g n cap : Nat) (F : Nat → Int) : Prop := w.ownsRow base 3 1 (.slice (some ⟨g, 0, none⟩) n cap) n (numsL n F)

section
variable {w w' : World} {base g n cap B : Nat} {F G : Nat → Int}
theorem OwnN.lt (h : OwnN w base g n cap F) : g < w.heap.size := by
  rcases h.2 with ⟨h, _⟩ | ⟨g', cap, cur, hv, hg, hh, hr⟩
  · cases h
  · injection hv with hv
    injection hv with hv
    injection hv with hv
    subst hv
    exact Has.lt (t := 3) (cs := cur) hh
theorem OwnN.base_le (h : OwnN w base g n cap F) : base ≤ g := by
  obtain ⟨_, _, hg⟩ := own_form h (g0 := g) rfl
  exact hg
theorem OwnN.cell (h : OwnN w base g n cap F) (j : Nat) (hj : j < n) : w.cell? ⟨g, j, none⟩ = some (.int .i64 (F j)) := by
  have := h.cellAt j (by omega)
  rw [this, numsL_get n F j hj]
theorem OwnN.free (h : OwnN w base g n cap F) (j : Nat) : w.frozen? ⟨g, j, none⟩ = false := h.frozenAt j
theorem OwnN.of_block (h : OwnN w base g n cap F) (e : w'.heap[g]? = w.heap[g]?) : OwnN w' base g n cap F := by
  refine ⟨h.1, ?_⟩
  rcases h.2 with h0 | ⟨g', cap, cur, hv, hg, hh, hr⟩
  · exact .inl h0
  · refine .inr ⟨g', cap, cur, hv, hg, ?_, hr⟩
    injection hv with hv
    injection hv with hv
    injection hv with hv
    subst hv
    exact e.trans hh
theorem OwnN.below (h : OwnN w base g n cap F) (hb : Below B w w') (hg : g < B) : OwnN w' base g n cap F := h.of_block (hb.block g hg)
theorem OwnN.keeps {b : Nat} (h : OwnN w base g n cap F) (hk : Keeps b w w') (hg : g ≠ b) : OwnN w' base g n cap F := h.of_block (hk.block g h.lt hg)
theorem OwnN.alloc (h : OwnN w base g n cap F) (o : Obj) : OwnN (w.alloc o) base g n cap F := h.of_block (Below.heap_alloc w o g h.lt)
theorem OwnN.drew (h : OwnN w base g n cap F) : OwnN w.drew base g n cap F := h.of_block rfl
theorem OwnN.drewN (h : OwnN w base g n cap F) (k : Nat) : OwnN (w.drewN k) base g n cap F := h.of_block rfl
theorem OwnN.put (h : OwnN w base g n cap F) (k : Nat) (z : Int) : OwnN (w.setCell ⟨g, k, none⟩ (.int .i64 z)) base g n cap (fun i => if i = k then z else F i) := by
  have := (h.stored k (.int .i64 z)).1
  rw [numsL_set] at this
  exact this
theorem OwnN.far (h : OwnN w base g n cap F) {p : Addr} (hp : g ≠ p.block) (u : Value) : OwnN (w.setCell p u) base g n cap F := h.of_block (Below.heap_setCell w p u g hp)
theorem OwnN.congr (h : OwnN w base g n cap F) (e : ∀ i, i < n → F i = G i) : OwnN w base g n cap G := by
  unfold OwnN at h ⊢
  rwa [← numsL_congr e]
theorem OwnN.nums (h : OwnN w base g n cap F) : Nums w w.heap.size (some ⟨g, 0, none⟩) n F := by
  have := Cells.of_own h (fun j => .int .i64 (F j)) fun j hj => by simp [numsL]
  rwa [Nat.mul_one] at this
end
end Go.Proofs.YtbeikfopneeodaaGreat
namespace Go.Proofs.YtbeikfopneeodaaGreat
open Go.RowKit
set_option linter.unusedVariables false

set_option maxRecDepth 100000 in
theorem i64_info : (Tryz.prog.info? 3).map (fun i => (i.zero, i.size, i.bytes)) = some (some (.int .i64 0), 1, 8) := by kernel_rfl

/-- nothing that was there has changed but blocks of S -/
structure Leaves (S : Nat → Prop) (w w' : World) : Prop where
  os : w'.os = w.os
  tape : w'.tape = w.tape
  output : w'.output = w.output
  size : w.heap.size ≤ w'.heap.size
  block : ∀ k, k < w.heap.size → ¬ S k → w'.heap[k]? = w.heap[k]?

section
variable {S T : Nat → Prop} {a w w' w'' : World} {B : Nat}
theorem Leaves.refl (S : Nat → Prop) (w : World) : Leaves S w w := ⟨rfl, rfl, rfl, Nat.le_refl _, fun _ _ _ => rfl⟩
theorem Leaves.trans' (h : Leaves S a w) (k : Leaves T w w') (hT : ∀ i, i < a.heap.size → T i → S i) : Leaves S a w' :=
  ⟨k.os.trans h.os, k.tape.trans h.tape, k.output.trans h.output, Nat.le_trans h.size k.size, fun i hi hn => (k.block i (Nat.lt_of_lt_of_le hi h.size) fun c => hn (hT i hi c)).trans (h.block i hi hn)⟩
theorem Leaves.trans (h : Leaves S a w) (k : Leaves S w w') : Leaves S a w' := h.trans' k fun _ _ c => c
theorem Leaves.step (h : Leaves S a w) (k : Below w.heap.size w w') : Leaves S a w' :=
  ⟨k.os.trans h.os, k.tape.trans h.tape, k.output.trans h.output, Nat.le_trans h.size k.size, fun i hi hn => (k.block i (Nat.lt_of_lt_of_le hi h.size)).trans (h.block i hi hn)⟩
theorem Leaves.alloc (h : Leaves S a w) (o : Obj) : Leaves S a (w.alloc o) := h.step ((Below.refl _ _).alloc (Nat.le_refl _) o)
theorem Leaves.drewN (h : Leaves S a w) (n : Nat) : Leaves S a (w.drewN n) := ⟨h.os, h.tape, h.output, h.size, h.block⟩
theorem Leaves.drew (h : Leaves S a w) : Leaves S a w.drew := ⟨h.os, h.tape, h.output, h.size, h.block⟩
theorem Leaves.put (h : Leaves S a w) {p : Addr} (hp : S p.block ∨ a.heap.size ≤ p.block) (u : Value) : Leaves S a (w.setCell p u) :=
  ⟨h.os, h.tape, h.output, by have := h.size; simp; omega, fun k hk hn => (Below.heap_setCell w p u k (fun e => by subst e; rcases hp with c | c; exact hn c; omega)).trans (h.block k hk hn)⟩
theorem Leaves.one (w : World) (b j : Nat) (u : Value) : Leaves (fun k => k = b) w (w.setCell ⟨b, j, none⟩ u) := Leaves.put (S := fun k => k = b) (p := ⟨b, j, none⟩) (Leaves.refl _ w) (.inl rfl) u
theorem Leaves.grown {row : Option Nat} (h : Leaves S a w) (hg : w.grownBy w' row) (hr : ∀ k, row = some k → S k ∨ a.heap.size ≤ k) : Leaves S a w' :=
  ⟨hg.os.trans h.os, hg.tape.trans h.tape, hg.output.trans h.output, Nat.le_trans h.size hg.size, fun k hk hn => (hg.block k (Nat.lt_of_lt_of_le hk h.size) (fun e => by rcases hr k e.symm with c | c; exact hn c; omega)).trans (h.block k hk hn)⟩
theorem Leaves.below (h : Leaves S w w') (hS : ∀ k, S k → B ≤ k) (hB : B ≤ w.heap.size) : Below B w w' :=
  ⟨h.os, h.tape, h.output, h.size, fun k hk => h.block k (by omega) fun c => by have := hS k c; omega⟩
theorem Leaves.new (h : Leaves S w w') (hS : ∀ k, S k → w.heap.size ≤ k) : Below w.heap.size w w' := h.below hS (Nat.le_refl _)
theorem Leaves.mono (h : Leaves S w w') (hS : ∀ k, S k → T k) : Leaves T w w' := ⟨h.os, h.tape, h.output, h.size, fun k hk hn => h.block k hk fun c => hn (hS k c)⟩
theorem Has.leaves {g : Nat} {cs : Array Value} {t : TypeId} (h : Has w g cs t) (hk : Leaves S w w') (hn : ¬ S g) : Has w' g cs t := (hk.block g h.lt hn).trans h
theorem Cells.leaves {A : Option Addr} {n : Nat} {f : Nat → Value} (h : Cells w w.heap.size A n f) (hk : Leaves S w w') (hA : ∀ ad, A = some ad → ¬ S ad.block) : Cells w' w'.heap.size A n f := fun hn => by
  obtain ⟨ad, e, hlt, hc⟩ := h hn
  exact ⟨ad, e, Nat.lt_of_lt_of_le hlt hk.size, fun j hj => by
    have h1 := hc j hj
    exact (World.cell?_of_block (w := w) (hk.block _ (by rw [add_block]; exact hlt) (by rw [add_block]; exact hA ad e))).trans h1⟩
theorem own_leaves {base size n : Nat} {e : TypeId} {v : Value} {xs : List Value} (h : w.ownsRow base e size v n xs) (hk : Leaves S w w') (hS : ∀ k, v.ownBlock = some k → ¬ S k) : w'.ownsRow base e size v n xs := by
  refine ⟨h.1, ?_⟩
  rcases h.2 with h0 | ⟨g, cap, cur, hv, hg, hh, hr⟩
  · exact .inl h0
  · have hlt : g < w.heap.size := Has.lt (t := e) (cs := cur) hh
    exact .inr ⟨g, cap, cur, hv, hg, (hk.block g hlt (hS g (by rw [hv]; rfl))).trans hh, hr⟩
theorem own_lt {base size n k : Nat} {e : TypeId} {v : Value} {xs : List Value} (h : w.ownsRow base e size v n xs) (hv : v.ownBlock = some k) : k < w.heap.size ∧ base ≤ k := by
  rcases h.2 with ⟨h0, _⟩ | ⟨g, cap, cur, hv', hg, hh, hr⟩
  · rw [h0] at hv; cases hv
  · rw [hv'] at hv
    injection hv with hv
    simp only at hv
    subst hv
    exact ⟨Has.lt (t := e) (cs := cur) hh, hg⟩
end
end Go.Proofs.YtbeikfopneeodaaGreat
namespace Go.Proofs.YtbeikfopneeodaaGreat
open Go.RowKit
set_option linter.unusedVariables false

/-- the call owns n elements of s cells in block g, with room for cap -/
def Own (w : World) (base g n cap s : Nat) (e : TypeId) (F : Nat → Value) : Prop :=
  ∃ cur : Array Value, w.heap[g]? = some (.cells cur e (0, 0)) ∧ base ≤ g ∧ (n ≤ cap ∧ cap ≤ maxLen) ∧ cur.size = cap * s ∧ ∀ j, j < n * s → cur[j]? = some (F j)
def rowL (k : Nat) (F : Nat → Value) : List Value := (List.range k).map F
theorem rowL_length (k : Nat) (F : Nat → Value) : (rowL k F).length = k := by simp [rowL]
theorem rowL_get (k : Nat) (F : Nat → Value) (j : Nat) (h : j < k) : (rowL k F)[j]? = some (F j) := by simp [rowL, h]

section
variable {w w' : World} {base g n cap s : Nat} {e : TypeId} {F G : Nat → Value}
theorem Own.lt (h : Own w base g n cap s e F) : g < w.heap.size := by
  obtain ⟨cur, hh, _⟩ := h
  exact Has.lt (t := e) (cs := cur) hh
theorem Own.base_le (h : Own w base g n cap s e F) : base ≤ g := by obtain ⟨_, _, h, _⟩ := h; exact h
theorem Own.len (h : Own w base g n cap s e F) : n ≤ cap ∧ cap ≤ maxLen := by obtain ⟨_, _, _, h, _⟩ := h; exact h
theorem Own.row (h : Own w base g n cap s e F) : w.ownsRow base e s (.slice (some ⟨g, 0, none⟩) n cap) n (rowL (n * s) F) := by
  obtain ⟨cur, hh, hb, ⟨hn, hc⟩, hs, hF⟩ := h
  have hle : n * s ≤ cap * s := Nat.mul_le_mul_right s hn
  refine ⟨rowL_length _ _, .inr ⟨g, cap, cur, rfl, hb, hh, hn, hc, hs, ?_⟩⟩
  apply List.ext_getElem?
  intro j
  rw [List.getElem?_take]
  by_cases hj : j < n * s
  · rw [if_pos hj, rowL_get _ _ _ hj, Array.getElem?_toList, hF j hj]
  · rw [if_neg hj, List.getElem?_eq_none (by rw [rowL_length]; omega)]
theorem Own.of_row {g cap : Nat} {xs : List Value} (h : w.ownsRow base e s (.slice (some ⟨g, 0, none⟩) n cap) n xs) (hx : ∀ j, j < n * s → xs[j]? = some (F j)) : Own w base g n cap s e F := by
  rcases h.2 with ⟨h0, _⟩ | ⟨g', cap', cur, hv, hb, hh, hn, hc, hs, ht⟩
  · cases h0
  · injection hv with hv _ hv3
    injection hv with hv
    injection hv with hv
    subst hv hv3
    refine ⟨cur, hh, hb, ⟨hn, hc⟩, hs, fun j hj => ?_⟩
    rw [← hx j hj, ← ht, List.getElem?_take, if_pos hj, Array.getElem?_toList]
theorem Own.of_block (h : Own w base g n cap s e F) (eq : w'.heap[g]? = w.heap[g]?) : Own w' base g n cap s e F := by
  obtain ⟨cur, hh, hr⟩ := h
  exact ⟨cur, eq.trans hh, hr⟩
theorem Own.below {B : Nat} (h : Own w base g n cap s e F) (hb : Below B w w') (hg : g < B) : Own w' base g n cap s e F := h.of_block (hb.block g hg)
theorem Own.later (h : Own w base g n cap s e F) (hb : Below w.heap.size w w') : Own w' base g n cap s e F := h.below hb h.lt
theorem Own.congr (h : Own w base g n cap s e F) (eq : ∀ j, j < n * s → F j = G j) : Own w base g n cap s e G := by
  obtain ⟨cur, hh, h1, h2, h3, h4⟩ := h
  exact ⟨cur, hh, h1, h2, h3, fun j hj => by rw [← eq j hj]; exact h4 j hj⟩
theorem Own.cell (h : Own w base g n cap s e F) {j : Nat} (hj : j < n * s) : w.cell? ⟨g, j, none⟩ = some (F j) := by
  obtain ⟨cur, hh, _, _, _, h4⟩ := h
  rw [cell_of_row w g j cur e (0, 0) hh]
  exact h4 j hj
theorem Own.free (h : Own w base g n cap s e F) (j : Nat) : w.frozen? ⟨g, j, none⟩ = false := by
  obtain ⟨cur, hh, _⟩ := h
  exact Has.free (t := e) (cs := cur) hh j
theorem Own.cut {m : Nat} (h : Own w base g n cap s e F) (hm : m ≤ n) : Own w base g m cap s e F := by
  obtain ⟨cur, hh, h1, h2, h3, h4⟩ := h
  exact ⟨cur, hh, h1, ⟨by omega, h2.2⟩, h3, fun j hj => h4 j (Nat.lt_of_lt_of_le hj (Nat.mul_le_mul_right s hm))⟩
theorem Own.down {base' : Nat} (h : Own w base g n cap s e F) (hb : base' ≤ base) : Own w base' g n cap s e F := by
  obtain ⟨cur, hh, h1, h2⟩ := h
  exact ⟨cur, hh, Nat.le_trans hb h1, h2⟩
theorem Own.cells (h : Own w base g n cap s e F) : Cells w w.heap.size (some ⟨g, 0, none⟩) (n * s) F := fun hn => ⟨_, rfl, h.lt, fun j hj => by
  rw [Go.WideShapes.add_plain, Nat.zero_add]
  exact h.cell hj⟩
theorem Own.range {i : Nat} {cs : List Value} (h : Own w base g n cap s e F) (hl : cs.length = s) (hi : i < n) (hF : ∀ j, j < s → cs[j]? = some (F (i * s + j))) : w.rangeAt g (i * s) cs := fun j v hj => by
  have hjs : j < s := by rw [← hl]; exact (List.getElem?_eq_some_iff.1 hj).1
  have hlt : i * s + j < n * s := by
    have := Nat.mul_le_mul_right s (show i + 1 ≤ n by omega)
    rw [Nat.succ_mul] at this
    omega
  rw [h.cell hlt, ← hF j hjs, hj]
end

theorem setCells_block (g : Nat) (t : TypeId) : ∀ (vs : List Value) (o : Nat) (cur : Array Value) (w : World), w.heap[g]? = some (.cells cur t (0, 0)) → o + vs.length ≤ cur.size →
    ∃ cur' : Array Value, (w.setCells g o vs).heap[g]? = some (.cells cur' t (0, 0)) ∧ cur'.size = cur.size ∧ ∀ j, cur'[j]? = if o ≤ j ∧ j < o + vs.length then vs[j - o]? else cur[j]?
  | [], o, cur, w, h, _ => ⟨cur, h, rfl, fun j => by rw [if_neg (by simp)]⟩
  | v :: r, o, cur, w, h, hl => by
    have h1 : (w.setCell ⟨g, o, none⟩ v).heap[g]? = some (.cells (cur.setIfInBounds o v) t (0, 0)) := Has.put (t := t) (cs := cur) h o v
    obtain ⟨cur', h2, h3, h4⟩ := setCells_block g t r (o + 1) (cur.setIfInBounds o v) (w.setCell ⟨g, o, none⟩ v) h1 (by simp at hl ⊢; omega)
    refine ⟨cur', h2, by rw [h3]; simp, fun j => ?_⟩
    rw [h4 j]
    simp only [List.length_cons] at hl ⊢
    by_cases hj : o + 1 ≤ j ∧ j < o + 1 + r.length
    · rw [if_pos hj, if_pos (by omega), show j - o = (j - (o + 1)) + 1 by omega, List.getElem?_cons_succ]
    · rw [if_neg hj]
      by_cases hjo : j = o
      · subst hjo
        rw [if_pos (by omega), Nat.sub_self, List.getElem?_cons_zero, Array.getElem?_setIfInBounds_self_of_lt (by omega)]
      · rw [if_neg (by omega), Array.getElem?_setIfInBounds_ne (by omega)]
theorem setCells_other (g : Nat) : ∀ (vs : List Value) (o : Nat) (w : World) (k : Nat), k ≠ g → (w.setCells g o vs).heap[k]? = w.heap[k]?
  | [], _, _, _, _ => rfl
  | v :: r, o, w, k, h => by
    rw [World.setCells, setCells_other g r (o + 1) _ k h]
    exact Below.heap_setCell w ⟨g, o, none⟩ v k h
theorem setCells_size (g : Nat) : ∀ (vs : List Value) (o : Nat) (w : World), (w.setCells g o vs).heap.size = w.heap.size
  | [], _, _ => rfl
  | v :: r, o, w => by
    rw [World.setCells, setCells_size g r (o + 1) _]
    simp
theorem leaves_setCells (g : Nat) : ∀ (vs : List Value) (o : Nat) (w : World), Leaves (fun k => k = g) w (w.setCells g o vs)
  | [], _, w => Leaves.refl _ w
  | v :: r, o, w => (Leaves.one w g o v).trans (leaves_setCells g r (o + 1) _)
/-- element i is written -/
theorem Own.write {w : World} {base g n cap s i : Nat} {e : TypeId} {F G : Nat → Value} {vs : List Value} (h : Own w base g n cap s e F) (hl : vs.length = s) (hi : i < n)
    (hG : ∀ j, j < n * s → some (G j) = if i * s ≤ j ∧ j < i * s + s then vs[j - i * s]? else some (F j)) : Own (w.setCells g (i * s) vs) base g n cap s e G := by
  obtain ⟨cur, hh, h1, h2, h3, h4⟩ := h
  have hle := Nat.mul_le_mul_right s (show i + 1 ≤ cap by omega)
  rw [Nat.succ_mul] at hle
  obtain ⟨cur', g1, g2, g3⟩ := setCells_block g e vs (i * s) cur w hh (by rw [h3, hl]; omega)
  refine ⟨cur', g1, h1, h2, by rw [g2, h3], fun j hj => ?_⟩
  rw [g3 j, hl, hG j hj]
  by_cases c : i * s ≤ j ∧ j < i * s + s
  · rw [if_pos c, if_pos c]
  · rw [if_neg c, if_neg c]
    exact h4 j hj
theorem Own.there {w : World} {base g n cap s i : Nat} {e : TypeId} {F : Nat → Value} (h : Own w base g n cap s e F) (hi : i < n) : w.there g (i * s) s := fun j hj => by
  have hlt : i * s + j < n * s := by
    have := Nat.mul_le_mul_right s (show i + 1 ≤ n by omega)
    rw [Nat.succ_mul] at this
    omega
  exact ⟨by rw [h.cell hlt]; rfl, h.free _⟩
/-- a row that an append has made -/
theorem Own.made {w : World} {base s n : Nat} {e : TypeId} {v : Value} {F : Nat → Value} {xs : List Value} (h : w.ownsRow base e s v n xs) (hx : ∀ j, j < n * s → xs[j]? = some (F j)) :
    (v = .slice none 0 0 ∧ n = 0) ∨ ∃ g cap, v = .slice (some ⟨g, 0, none⟩) n cap ∧ Own w base g n cap s e F := by
  rcases h.2 with h0 | ⟨g, cap, cur, hv, hr⟩
  · exact .inl h0
  · refine .inr ⟨g, cap, hv, ?_⟩
    subst hv
    exact Own.of_row h hx
/-- where the structs i and j lie -/
theorem at_div {i s j : Nat} (hs : 0 < s) (hj : j < s) : (i * s + j) / s = i ∧ (i * s + j) % s = j := by
  constructor
  · rw [Nat.mul_comm, Nat.mul_add_div hs, Nat.div_eq_of_lt hj, Nat.add_zero]
  · rw [Nat.mul_comm, Nat.mul_add_mod, Nat.mod_eq_of_lt hj]
theorem div_at {i s j : Nat} (hs : 0 < s) : (i * s ≤ j ∧ j < i * s + s) ↔ j / s = i := by
  constructor
  · rintro ⟨h1, h2⟩
    obtain ⟨d, rfl⟩ : ∃ d, j = i * s + d := ⟨j - i * s, by omega⟩
    exact (at_div hs (by omega)).1
  · rintro rfl
    have h1 := Nat.div_add_mod j s
    have h2 := Nat.mod_lt j hs
    rw [Nat.mul_comm] at h1
    omega
theorem Has.grown {w w' : World} {b : Nat} {cs : Array Value} {t : TypeId} {row : Option Nat} (h : Has w b cs t) (hg : w.grownBy w' row) (hr : some b ≠ row) : Has w' b cs t := (hg.block b h.lt hr).trans h
theorem own_nil (W : World) (base : Nat) (e : TypeId) (s : Nat) : W.ownsRow base e s (.slice none 0 0) 0 [] := ⟨by simp, .inl ⟨rfl, rfl⟩⟩
theorem Own.one {w : World} {base g cap : Nat} {e : TypeId} {v : Value} (h : w.ownsRow base e 1 (.slice (some ⟨g, 0, none⟩) 1 cap) 1 [v]) : Own w base g 1 cap 1 e (fun _ => v) := Own.of_row h (fun j hj => by
  obtain rfl : j = 0 := by omega
  rfl)
theorem Own.grown {w w' : World} {base g n cap s : Nat} {e : TypeId} {F : Nat → Value} {row : Option Nat} (h : Own w base g n cap s e F) (hg : w.grownBy w' row) (hr : some g ≠ row) : Own w' base g n cap s e F := h.of_block (hg.block g h.lt hr)
theorem Own.alloc {w : World} {base g n cap s : Nat} {e : TypeId} {F : Nat → Value} (h : Own w base g n cap s e F) (o : Obj) : Own (w.alloc o) base g n cap s e F := h.of_block (Below.heap_alloc w o g h.lt)
theorem Own.drewN {w : World} {base g n cap s : Nat} {e : TypeId} {F : Nat → Value} (h : Own w base g n cap s e F) (k : Nat) : Own (w.drewN k) base g n cap s e F := h
theorem below_app {w w' : World} {o : Obj} (hg : (w.alloc o).grownBy w' none) : Below w.heap.size w w' := Below.grown ((Below.refl _ _).alloc (Nat.le_refl _) o) hg (by simp) (fun k hk => by cases hk)
theorem results_cell_tmp {P : Program} {fn : Func} {p q : Tmp} {ty : TypeId} (h : fn.results = #[.cell p ty, .tmp q]) (tmps : Array Value) (w : World) (g : Nat) (t : TypeId) (cs : Array Value) (fr : Nat × Nat) (d : TypeDesc) (v : Value)
    (hp : tmps.getD p undef = .pointer (some ⟨g, 0, none⟩)) (hq : tmps.getD q undef = v) (hg : w.heap[g]? = some (.cells cs t fr))
    (hu : P.underlying ty = some d) (hd : (match d with | .struct _ | .array _ _ => true | _ => false) = true) (hi : (P.info? ty).map (·.size) = some cs.size) :
    (results fn tmps).run P w = .ok (.tuple #[.agg cs, v]) w := by
  have hp' : tmps[p]?.getD undef = .pointer (some ⟨g, 0, none⟩) := by simpa using hp
  have hq' : tmps[q]?.getD undef = v := by simpa using hq
  simp [results, h, hp', hq', asAddr, run_loadVar_row w g t ty cs fr d hg hu hd hi]
end Go.Proofs.YtbeikfopneeodaaGreat
