/- A row of numbers that the call has appended together, as a function. No program in sight. Worlds that differ in some of the blocks. No program in sight. A whole struct or array out of and into a block that is known whole, as laws of a plain region. No program in sight. syntax.Valid: a valid expression, for every tree in memory. -/
import Derived.Test.YtlbkhhbbkedhkaaGreatDoorMa03
import Derived.Laws.Rows
import Derived.Laws.Tables
import Derived.Deep.WholeRow
import Derived.Test.YtlbkhhbbkedhkaaGreatDoorMa04
import Derived.LoopTactic
import Derived.Deep.DeepCutAuto
import Derived.Deep.CutBlock
namespace Go.Proofs.YtlbkhhbbkedhkaaGreatDoor
open Go.RowKit

def numsL (n : Nat) (F : Nat → Int) : List Value := (List.range n).map fun i => .int .i64 (F i)
theorem numsL_length (n : Nat) (F : Nat → Int) : (numsL n F).length = n := by simp [numsL]
theorem numsL_get (n : Nat) (F : Nat → Int) (j : Nat) (h : j < n) : (numsL n F)[j]? = some (.int .i64 (F j)) := by simp [numsL, h]
theorem numsL_set (n : Nat) (F : Nat → Int) (k : Nat) (z : Int) : (numsL n F).set k (.int .i64 z) = numsL n fun i => if i = k then z else F i := by
  apply List.ext_getElem?
  intro j
  by_cases hj : j < n
  · by_cases e : k = j
    · subst e
      rw [List.getElem?_set_self (by rw [numsL_length]; exact hj), numsL_get n _ k hj]
      simp
    · rw [List.getElem?_set_ne e, numsL_get n _ j hj, numsL_get n _ j hj]
      simp only [if_neg (Ne.symm e)]
  · rw [List.getElem?_eq_none (by simp [numsL]; omega), List.getElem?_eq_none (by simp [numsL]; omega)]
theorem numsL_congr {n : Nat} {F G : Nat → Int} (h : ∀ i, i < n → F i = G i) : numsL n F = numsL n G := by
  apply List.map_congr_left
  intro i hi
  rw [h i (List.mem_range.1 hi)]
theorem numsL_one (n : Nat) (F : Nat → Int) : ∀ u ∈ numsL n F, u.oneCell' = true := fun u hu => by
  obtain ⟨i, _, rfl⟩ := List.mem_map.1 hu
  rfl
theorem Nums.news {w : World} {B n : Nat} {ad : Addr} {F : Nat → Int} (h : Nums w B (some ad) n F) : ∀ j u, (numsL n F)[j]? = some u → w.cell? (ad.add j) = some u := fun j u hu => by
  have hj : j < n := by
    rcases Nat.lt_or_ge j n with h | h
    · exact h
    · rw [List.getElem?_eq_none (by rw [numsL_length]; exact h)] at hu; cases hu
  obtain ⟨ad', e, _, hc⟩ := Cells.get h hj
  injection e with e
  subst e
  rw [hc, ← hu, numsL_get n F j hj]

/-- the call owns n numbers in block g -/
def OwnN (w : World) (base g n cap : Nat) (F : Nat → Int) : Prop := w.ownsRow base 3 1 (.slice (some ⟨g, 0, none⟩) n cap) n (numsL n F)

section
variable {w w' : World} {base g n cap B : Nat} {F G : Nat → Int}
theorem OwnN.lt (h : OwnN w base g n cap F) : g < w.heap.size := by
  rcases h.2 with ⟨h, _⟩ | ⟨g', cap, cur, hv, hg, hh, hr⟩
  · cases h
  · injection hv with hv
    injection hv with hv
    injection hv with hv
    subst hv
    exact Has.lt (t := 3) (cs := cur) hh
theorem OwnN.base_le (h : OwnN w base g n cap F) : base ≤ g := by
  obtain ⟨_, _, hg⟩ := own_form h (g0 := g) rfl
  exact hg
theorem OwnN.cell (h : OwnN w base g n cap F) (j : Nat) (hj : j < n) : w.cell? ⟨g, j, none⟩ = some (.int .i64 (F j)) := by
  have := h.cellAt j (by omega)
  rw [this, numsL_get n F j hj]
theorem OwnN.free (h : OwnN w base g n cap F) (j : Nat) : w.frozen? ⟨g, j, none⟩ = false := h.frozenAt j
theorem OwnN.of_block (h : OwnN w base g n cap F) (e : w'.heap[g]? = w.heap[g]?) : OwnN w' base g n cap F := by
  refine ⟨h.1, ?_⟩
  rcases h.2 with h0 | ⟨g', cap, cur, hv, hg, hh, hr⟩
  · exact .inl h0
  · refine .inr ⟨g', cap, cur, hv, hg, ?_, hr⟩
    injection hv with hv
    injection hv with hv
    injection hv with hv
    subst hv
    exact e.trans hh
theorem OwnN.below (h : OwnN w base g n cap F) (hb : Below B w w') (hg : g < B) : OwnN w' base g n cap F := h.of_block (hb.block g hg)
theorem OwnN.keeps {b : Nat} (h : OwnN w base g n cap F) (hk : Keeps b w w') (hg : g ≠ b) : OwnN w' base g n cap F := h.of_block (hk.block g h.lt hg)
theorem OwnN.alloc (h : OwnN w base g n cap F) (o : Obj) : OwnN (w.alloc o) base g n cap F := h.of_block (Below.heap_alloc w o g h.lt)
theorem OwnN.drew (h : OwnN w base g n cap F) : OwnN w.drew base g n cap F := h.of_block rfl
theorem OwnN.drewN (h : OwnN w base g n cap F) (k : Nat) : OwnN (w.drewN k) base g n cap F := h.of_block rfl
theorem OwnN.put (h : OwnN w base g n cap F) (k : Nat) (z : Int) : OwnN (w.setCell ⟨g, k, none⟩ (.int .i64 z)) base g n cap (fun i => if i = k then z else F i) := by
  have := (h.stored k (.int .i64 z)).1
  rw [numsL_set] at this
  exact this
theorem OwnN.far (h : OwnN w base g n cap F) {p : Addr} (hp : g ≠ p.block) (u : Value) : OwnN (w.setCell p u) base g n cap F := h.of_block (Below.heap_setCell w p u g hp)
theorem OwnN.congr (h : OwnN w base g n cap F) (e : ∀ i, i < n → F i = G i) : OwnN w base g n cap G := by
  unfold OwnN at h ⊢
  rwa [← numsL_congr e]
theorem OwnN.nums (h : OwnN w base g n cap F) : Nums w w.heap.size (some ⟨g, 0, none⟩) n F := by
  have := Cells.of_own h (fun j => .int .i64 (F j)) fun j hj => by simp [numsL]
  rwa [Nat.mul_one] at this
end
end Go.Proofs.YtlbkhhbbkedhkaaGreatDoor
namespace Go.Proofs.YtlbkhhbbkedhkaaGreatDoor
open Go.RowKit
set_option linter.unusedVariables false

set_option maxRecDepth 100000 in
theorem i64_info : (Tryz.prog.info? 3).map (fun i => (i.zero, i.size, i.bytes)) = some (some (.int .i64 0), 1, 8) := by kernel_rfl

/-- nothing that was there has changed but blocks of S -/
structure Leaves (S : Nat → Prop) (w w' : World) : Prop where
  os : w'.os = w.os
  tape : w'.tape = w.tape
  output : w'.output = w.output
  size : w.heap.size ≤ w'.heap.size
  block : ∀ k, k < w.heap.size → ¬ S k → w'.heap[k]? = w.heap[k]?

section
variable {S T : Nat → Prop} {a w w' w'' : World} {B : Nat}
theorem Leaves.refl (S : Nat → Prop) (w : World) : Leaves S w w := ⟨rfl, rfl, rfl, Nat.le_refl _, fun _ _ _ => rfl⟩
theorem Leaves.trans' (h : Leaves S a w) (k : Leaves T w w') (hT : ∀ i, i < a.heap.size → T i → S i) : Leaves S a w' :=
  ⟨k.os.trans h.os, k.tape.trans h.tape, k.output.trans h.output, Nat.le_trans h.size k.size, fun i hi hn => (k.block i (Nat.lt_of_lt_of_le hi h.size) fun c => hn (hT i hi c)).trans (h.block i hi hn)⟩
theorem Leaves.trans (h : Leaves S a w) (k : Leaves S w w') : Leaves S a w' := h.trans' k fun _ _ c => c
theorem Leaves.step (h : Leaves S a w) (k : Below w.heap.size w w') : Leaves S a w' :=
  ⟨k.os.trans h.os, k.tape.trans h.tape, k.output.trans h.output, Nat.le_trans h.size k.size, fun i hi hn => (k.block i (Nat.lt_of_lt_of_le hi h.size)).trans (h.block i hi hn)⟩
theorem Leaves.alloc (h : Leaves S a w) (o : Obj) : Leaves S a (w.alloc o) := h.step ((Below.refl _ _).alloc (Nat.le_refl _) o)
theorem Leaves.drewN (h : Leaves S a w) (n : Nat) : Leaves S a (w.drewN n) := ⟨h.os, h.tape, h.output, h.size, h.block⟩
theorem Leaves.drew (h : Leaves S a w) : Leaves S a w.drew := ⟨h.os, h.tape, h.output, h.size, h.block⟩
theorem Leaves.put (h : Leaves S a w) {p : Addr} (hp : S p.block ∨ a.heap.size ≤ p.block) (u : Value) : Leaves S a (w.setCell p u) :=
  ⟨h.os, h.tape, h.output, by have := h.size; simp; omega, fun k hk hn => (Below.heap_setCell w p u k (fun e => by subst e; rcases hp with c | c; exact hn c; omega)).trans (h.block k hk hn)⟩
theorem Leaves.one (w : World) (b j : Nat) (u : Value) : Leaves (fun k => k = b) w (w.setCell ⟨b, j, none⟩ u) := Leaves.put (S := fun k => k = b) (p := ⟨b, j, none⟩) (Leaves.refl _ w) (.inl rfl) u
theorem Leaves.grown {row : Option Nat} (h : Leaves S a w) (hg : w.grownBy w' row) (hr : ∀ k, row = some k → S k ∨ a.heap.size ≤ k) : Leaves S a w' :=
  ⟨hg.os.trans h.os, hg.tape.trans h.tape, hg.output.trans h.output, Nat.le_trans h.size hg.size, fun k hk hn => (hg.block k (Nat.lt_of_lt_of_le hk h.size) (fun e => by rcases hr k e.symm with c | c; exact hn c; omega)).trans (h.block k hk hn)⟩
theorem Leaves.below (h : Leaves S w w') (hS : ∀ k, S k → B ≤ k) (hB : B ≤ w.heap.size) : Below B w w' :=
  ⟨h.os, h.tape, h.output, h.size, fun k hk => h.block k (by omega) fun c => by have := hS k c; omega⟩
theorem Leaves.new (h : Leaves S w w') (hS : ∀ k, S k → w.heap.size ≤ k) : Below w.heap.size w w' := h.below hS (Nat.le_refl _)
theorem Leaves.mono (h : Leaves S w w') (hS : ∀ k, S k → T k) : Leaves T w w' := ⟨h.os, h.tape, h.output, h.size, fun k hk hn => h.block k hk fun c => hn (hS k c)⟩
theorem Has.leaves {g : Nat} {cs : Array Value} {t : TypeId} (h : Has w g cs t) (hk : Leaves S w w') (hn : ¬ S g) : Has w' g cs t := (hk.block g h.lt hn).trans h
theorem Cells.leaves {A : Option Addr} {n : Nat} {f : Nat → Value} (h : Cells w w.heap.size A n f) (hk : Leaves S w w') (hA : ∀ ad, A = some ad → ¬ S ad.block) : Cells w' w'.heap.size A n f := fun hn => by
  obtain ⟨ad, e, hlt, hc⟩ := h hn
  exact ⟨ad, e, Nat.lt_of_lt_of_le hlt hk.size, fun j hj => by
    have h1 := hc j hj
    exact (World.cell?_of_block (w := w) (hk.block _ (by rw [add_block]; exact hlt) (by rw [add_block]; exact hA ad e))).trans h1⟩
theorem own_leaves {base size n : Nat} {e : TypeId} {v : Value} {xs : List Value} (h : w.ownsRow base e size v n xs) (hk : Leaves S w w') (hS : ∀ k, v.ownBlock = some k → ¬ S k) : w'.ownsRow base e size v n xs := by
  refine ⟨h.1, ?_⟩
  rcases h.2 with h0 | ⟨g, cap, cur, hv, hg, hh, hr⟩
  · exact .inl h0
  · have hlt : g < w.heap.size := Has.lt (t := e) (cs := cur) hh
    exact .inr ⟨g, cap, cur, hv, hg, (hk.block g hlt (hS g (by rw [hv]; rfl))).trans hh, hr⟩
theorem own_lt {base size n k : Nat} {e : TypeId} {v : Value} {xs : List Value} (h : w.ownsRow base e size v n xs) (hv : v.ownBlock = some k) : k < w.heap.size ∧ base ≤ k := by
  rcases h.2 with ⟨h0, _⟩ | ⟨g, cap, cur, hv', hg, hh, hr⟩
  · rw [h0] at hv; cases hv
  · rw [hv'] at hv
    injection hv with hv
    simp only at hv
    subst hv
    exact ⟨Has.lt (t := e) (cs := cur) hh, hg⟩
end
end Go.Proofs.YtlbkhhbbkedhkaaGreatDoor
namespace Go.Proofs.YtlbkhhbbkedhkaaGreatDoor
open Go.RowKit

theorem Has.alloc1 {w : World} {b : Nat} {cs : Array Value} {t : TypeId} {o : Obj} (h : Has w b cs t) : Has (w.alloc o) b cs t := h.alloc o

/-- all the cells of a block, as the walk reads a struct -/
theorem Has.load {P : Program} {w : World} {b : Nat} {cs : Array Value} {t : TypeId} (h : Has w b cs t) (n : Nat) (hn : cs.size = n) : (loadCellsFrom ⟨b, 0, none⟩ 0 n #[]).run P w = .ok cs w := by
  subst hn
  have := run_loadCells_list (P := P) w ⟨b, 0, none⟩ cs.toList (fun j v hv => by
    rw [Go.WideShapes.add_plain, Nat.zero_add, h.cell]
    simpa using hv)
  simpa [loadCells] using this

section
variable {P : Program} {ops : Array Oper} {rest : List Oper} {o : Oper} {a : Act} {w : World} {Q : Exit → Act → World → Prop}
theorem wpList_load_has (hgd : o.guard = none) (ty : TypeId) (x : Operand) (ho : o.op = .load ty x)
    (g : Nat) (hx : a.eval x = .pointer (some ⟨g, 0, none⟩)) (t : TypeId) (cs : Array Value) (d : TypeDesc) (hg : Has w g cs t)
    (hu : P.underlying ty = some d) (hd : (match d with | .struct _ | .array _ _ => true | _ => false) = true) (hi : (P.info? ty).map (·.size) = some cs.size)
    (h : wpList P ops Q rest (a.put o.dst (.agg cs)) w) : wpList P ops Q (o :: rest) a w :=
  wpList_load_row hgd ty x ho g hx t cs (0, 0) d hg hu hd hi h
theorem wpList_store_has (hgd : o.guard = none) (ty : TypeId) (x y : Operand) (ho : o.op = .store ty x y)
    (g : Nat) (hx : a.eval x = .pointer (some ⟨g, 0, none⟩)) (cells : Array Value) (hy : a.eval y = .agg cells)
    (t : TypeId) (old : Array Value) (hg : Has w g old t) (hi : (P.info? ty).map (·.size) = some cells.size)
    (hold : old.size = cells.size) (h1 : cells.toList.all (·.oneCell') = true)
    (h : ∀ w2, Has w2 g cells t → Leaves (fun k => k = g) w w2 → wpList P ops Q rest (a.put o.dst undef) w2) : wpList P ops Q (o :: rest) a w :=
  wpList_store_row hgd ty x y ho g cells hx hy t old hg hi hold (by rw [← Array.all_toList]; exact h1) (h _ (setRow_heap w g old cells t (0, 0) hg)
    ⟨rfl, rfl, rfl, by simp, fun k _ hn => setRow_other w g k cells hn⟩)
theorem wpList_build_is (hgd : o.guard = none) (t : TypeId) (parts : List (Nat × Operand)) (ho : o.op = .build t parts.toArray) (L : List (Nat × Value)) (hp : parts.map (fun x => (x.1, a.eval x.2)) = L)
    (cells : Array Value) (hb : P.built t L = some cells) (h : wpList P ops Q rest (a.put o.dst (.agg cells)) w) : wpList P ops Q (o :: rest) a w := by
  have e : (parts.toArray.map fun (i, x) => (i, a.eval x)).toList = L := by simpa using hp
  exact wpList_build hgd t parts.toArray ho (by rw [e, hb]; rfl) (by rw [e, hb]; exact h)
end
end Go.Proofs.YtlbkhhbbkedhkaaGreatDoor
namespace Go.Proofs.YtlbkhhbbkedhkaaGreatDoor
open Go.RowKit
set_option linter.unusedVariables false

/-- what the check at a depth, with n0 nodes counted in block c, says of an expression -/
def ValidP (e : Ex) (d n0 : Nat) : Prop := n0 + e.size ≤ 300 ∧ d + e.depth ≤ 17 ∧ e.all nodeQ
def ValidPost (e : Ex) (d n0 c : Nat) (w : World) (r : Ending) (w' : World) : Prop := ∃ (b : Bool) (n1 : Nat), r = .returned (.bool b) ∧ (b = true ↔ ValidP e d n0) ∧ (b = true → n1 = n0 + e.size) ∧ n1 ≤ 301 ∧ Has w' c #[.int .i64 n1] 3 ∧ Keeps c w w'

set_option maxRecDepth 100000 in
set_option maxHeartbeats 4000000 in
theorem valid_any (e : Ex) : ∀ (a : EA) (d n0 c : Nat) (w : World), Tab w → ExAt w c e a → Has w c #[.int .i64 n0] 3 → 0 < c → n0 ≤ 300 → d ≤ 17 →
    Calls Tryz.prog 117 #[.agg (e.cells a), .int .i64 d, .pointer (some ⟨c, 0, none⟩)] w (ValidPost e d n0 c w) := by
  induction e with
  | bot => exact fun a d n0 c w _ h => h.elim
  | mk op name nw ws lo hi na xs ih =>
    intro a d n0 c w ht hx hc hc0 hn0 hd
    have IH := Lib.hid ih
    have HTB := Lib.hid ht
    have HX := Lib.hid hx
    have HC := Lib.hid hc
    have HXI := Lib.hid ex_info
    obtain ⟨P, hP⟩ := hx.args
    obtain ⟨_, ⟨hna, hnaa⟩, _, _⟩ := hx
    have HP := Lib.hid hP
    obtain ⟨Aw, cw, Aa, ca⟩ := a
    have hcl := hc.lt
    obtain ⟨q0, q1, q2⟩ := hc.rules
    clear ih ht hc hP
    unfold Ex.cells Ex.row
    simp only at hnaa ⊢
    unfold big at hna
    have hn0' : (n0 : Int) ≤ 300 := by omega
    have hne : c ≠ w.heap.size := by omega
    go_enter Tryz.func117, Tryz.ntmps117
    go_upto_region 2 with (fail)
    have HK : Hid (Keeps c w ((w.setCell ⟨c, 0, none⟩ (.int .i64 ((n0 : Int) + 1))).alloc (.cells #[.int .i64 op, .string name, .slice Aw nw cw, .int .i64 lo, .int .i64 hi, .slice Aa na ca] 43))) := Lib.hid (((Keeps.refl c w).put 0 _).alloc _)
    have HB : Hid (Has ((w.setCell ⟨c, 0, none⟩ (.int .i64 ((n0 : Int) + 1))).alloc (.cells #[.int .i64 op, .string name, .slice Aw nw cw, .int .i64 lo, .int .i64 hi, .slice Aa na ca] 43)) w.heap.size #[.int .i64 op, .string name, .slice Aw nw cw, .int .i64 lo, .int .i64 hi, .slice Aa na ca] 43) := Lib.hid (Has.new' _ _ _ _ (by simp))
    have HC1 : Hid (Has ((w.setCell ⟨c, 0, none⟩ (.int .i64 ((n0 : Int) + 1))).alloc (.cells #[.int .i64 op, .string name, .slice Aw nw cw, .int .i64 lo, .int .i64 hi, .slice Aa na ca] 43)) c #[.int .i64 ((n0 + 1 : Nat) : Int)] 3) := Lib.hid ((HC.out.put 0 _).alloc _)
    obtain ⟨W, hW⟩ : ∃ W, (w.setCell ⟨c, 0, none⟩ (.int .i64 ((n0 : Int) + 1))).alloc (.cells #[.int .i64 op, .string name, .slice Aw nw cw, .int .i64 lo, .int .i64 hi, .slice Aa na ca] 43) = W := ⟨_, rfl⟩
    rw [hW] at HK HB HC1 ⊢
    clear hW q0 q1 q2 hne HC
    obtain ⟨n1, hn1⟩ : ∃ n1, n0 + 1 = n1 := ⟨_, rfl⟩
    rw [hn1] at HC1
    obtain ⟨q0, q1, q2⟩ := HC1.out.rules
    obtain ⟨e0, e1, e2⟩ := HB.out.rules
    have hsz : (Ex.mk op name nw ws lo hi na xs).size = 1 + sumN (fun i => (xs i).size) na := rfl
    have hdp : (Ex.mk op name nw ws lo hi na xs).depth = 1 + maxN (fun i => (xs i).depth) na := rfl
    have hal : (Ex.mk op name nw ws lo hi na xs).all nodeQ ↔ nodeQ (Ex.mk op name nw ws lo hi na xs) ∧ ∀ i, i < na → (xs i).all nodeQ := Iff.rfl
    have HD := Lib.hid (And.intro hsz (And.intro hdp hal))
    clear hsz hdp hal
    by_cases h1 : 300 < n1
    · have h1' : (300 : Int) < n1 := by omega
      go_wp2_with fail
      go_ret
      exact ⟨false, n1, rfl, ⟨fun c => (by cases c), fun c => by have := c.1; rw [HD.out.1] at this; omega⟩, fun c => (by cases c), by omega, HC1.out, HK.out⟩
    have h1' : (n1 : Int) ≤ 300 := by omega
    by_cases h2 : 16 < d
    · have h2' : (16 : Int) < d := by omega
      go_wp2_with fail
      go_ret
      exact ⟨false, n1, rfl, ⟨fun c => (by cases c), fun c => by have := c.2.1; rw [HD.out.2.1] at this; omega⟩, fun c => (by cases c), by omega, HC1.out, HK.out⟩
    have h2' : (d : Int) ≤ 16 := by omega
    have hbw : Below c w W := HK.out.below (Nat.le_refl c) (Nat.le_of_lt hcl)
    have HNO := Lib.hid (node_any op name nw ws lo hi na xs ⟨Aw, cw, Aa, ca⟩ W (HTB.out.below hbw hc0) (HX.out.below hbw (Nat.le_of_lt q2)))
    unfold Ex.row at HNO
    simp only at HNO
    obtain ⟨NQ, hNQ⟩ : ∃ NQ, nodeQ (Ex.mk op name nw ws lo hi na xs) = NQ := ⟨_, rfl⟩
    rw [hNQ] at HNO HD
    clear hbw hNQ
    go_wp2_with fail
    refine HNO.out.mono ?_
    rintro e w2 ⟨b, rfl, hb, hb2⟩
    have HBN := Lib.hid hb
    replace HK := Lib.hid (HK.out.trans (Keeps.of_below hb2 c))
    replace HC1 := Lib.hid (HC1.out.below hb2 q2)
    replace HB := Lib.hid (HB.out.below hb2 e2)
    clear hb hb2 HNO q0 q1 q2 e0 e1 e2
    obtain ⟨e0, e1, e2⟩ := HB.out.rules
    cases b with
    | false =>
      go_wp2_with fail
      go_ret
      exact ⟨false, n1, rfl, ⟨fun c => (by cases c), fun c => by have := HBN.out.2 ((HD.out.2.2).1 c.2.2).1; simp at this⟩, fun c => (by cases c), by omega, HC1.out, HK.out⟩
    | true =>
      have hnq : NQ := HBN.out.1 (by trivial)
      have HNQ := Lib.hid hnq
      clear HBN hnq
      go_wp2_with fail
      clear e0 e1 e2 HB
      go_loopw [30] (fun i wr => ∃ k m : Nat, k ≤ na ∧ i = .int .i64 k ∧ m = n1 + sumN (fun i => (xs i).size) k ∧ m ≤ 300 ∧ Hid (Has wr c #[.int .i64 m] 3) ∧ Hid (Keeps c w wr) ∧ Hid (∀ i, i < k → d + 1 + (xs i).depth ≤ 17 ∧ (xs i).all nodeQ)) (fun i _ => na - (intOf i).toNat)
      case atStart => exact ⟨0, n1, Nat.zero_le _, rfl, rfl, by omega, HC1, HK, Lib.hid fun i hi => by omega⟩
      case round =>
        clear HC1 HK
        obtain ⟨k, m, hk, rfl, hm, hm3, HC1, HK, HA⟩ := hrel
        by_cases hlt : k < na
        · obtain ⟨hxk, bb, o, hAa, hbb, hrg⟩ := HP.out k hlt
          try simp only at hAa
          subst hAa
          have hbw : Below c w wr := HK.out.below (Nat.le_refl c) (Nat.le_of_lt hcl)
          have HRG : Hid (wr.rangeAt bb (o + k * 6) ((xs k).cells (P k)).toList) := Lib.hid fun j v hj => by rw [hbw.cell (p := ⟨bb, o + k * 6 + j, none⟩) hbb]; exact hrg j v hj
          have HXK := Lib.hid hxk
          have HI := IH.out k (P k)
          have HIK := Lib.hid HI
          have hk0 : (0 : Int) ≤ k := by omega
          have hk1 : (k : Int) < na := by omega
          obtain ⟨y, hy⟩ : ∃ y, xs k = y := ⟨_, rfl⟩
          obtain ⟨pa, hpa⟩ : ∃ y, P k = y := ⟨_, rfl⟩
          rw [hy, hpa] at HRG HXK HIK
          have HYY := Lib.hid hy
          have HSM : Hid (n1 + sumN (fun i => (xs i).size) (k + 1) = m + y.size) := Lib.hid (by rw [sumN, hm, hy]; omega)
          have HM := Lib.hid hm
          have hcr := HC1.out.lt
          clear hxk hrg HI hy hpa hbw hm
          go_upto_region 7 with (first
            | (refine wpList_load_mid ?_ 43 (.tmp 32) ?_ bb (o + k * 6) ?_ _ _ HRG.out Tryz.underlying43 ?_ (by rw [Array.length_toList, Ex.cells_size]; exact HXI.out) ?_; rfl; rfl; rfl; rfl)
            | (refine wpList_store_has ?_ 43 (.tmp 8) (.tmp 33) ?_ wr.heap.size ?_ (y.cells pa) ?_ _ _ (Has.new wr _ _) (by rw [Ex.cells_size]; exact HXI.out) (by rw [Ex.cells_size]; rfl) (Ex.cells_one y pa) ?_; rfl; rfl; rfl; rfl; intro w4 hh4 hl4))
          have hb4 : Below wr.heap.size wr w4 := ((Below.refl _ _).alloc (Nat.le_refl _) _).trans (hl4.below (fun k hk => by omega) (by simp))
          have HY := Lib.hid hh4
          have HK4 := Lib.hid (HK.out.trans (Keeps.of_below hb4 c))
          have HC4 := Lib.hid (HC1.out.below hb4 hcr)
          obtain ⟨G, hG⟩ : ∃ G, wr.heap.size = G := ⟨_, rfl⟩
          rw [hG] at HY ⊢
          clear hG hb4 hh4 hl4 HRG HC1 HK
          have hbw : Below c w w4 := HK4.out.below (Nat.le_refl c) (Nat.le_of_lt hcl)
          have HCALL : Hid (Calls Tryz.prog 117 #[.agg (y.cells pa), .int .i64 ((d : Int) + 1), .pointer (some ⟨c, 0, none⟩)] w4 (ValidPost y (d + 1) m c w4)) :=
            Lib.hid (HIK.out (d + 1) m c w4 (HTB.out.below hbw hc0) (HXK.out.below hbw (Nat.le_refl c)) HC4.out hc0 hm3 (by omega))
          clear hbw HIK
          go_wp2_with ((refine wpList_load_has ?_ 43 (.tmp 8) ?_ G ?_ _ _ _ HY.out Tryz.underlying43 ?_ (by rw [Ex.cells_size]; exact HXI.out) ?_; rfl; rfl; rfl; rfl))
          refine HCALL.out.mono ?_
          rintro e w5 ⟨b, m2, rfl, hb, hb2, hm4, hc5, hk5⟩
          replace HK4 := Lib.hid (HK4.out.trans hk5)
          replace HC4 := Lib.hid hc5
          have HBB := Lib.hid (And.intro hb hb2)
          clear hb hb2 hc5 hk5 HCALL HY
          cases b with
          | false =>
            go_wp2_with fail
            go_ret
            refine ⟨false, m2, rfl, ⟨fun c => (by cases c), fun c => ?_⟩, fun c => (by cases c), by omega, HC4.out, HK4.out⟩
            have h5 := (HD.out.2.2.1 c.2.2).2 k hlt
            have h6 := c.1
            have h7 := c.2.1
            have h8 := sumN_le (f := fun i => (xs i).size) hlt
            have h9 := maxN_le (f := fun i => (xs i).depth) hlt
            try simp only at h8 h9
            rw [HD.out.1] at h6
            rw [HD.out.2.1] at h7
            rw [HYY.out] at h5 h8 h9
            have := HBB.out.1.2 ⟨by have := HM.out; omega, by omega, h5⟩
            cases this
          | true =>
            have hp := HBB.out.1.1 rfl
            have hm5 := HBB.out.2 rfl
            go_wp2_with fail
            go_roundw
            case rel => exact ⟨k + 1, m2, by omega, by go_num, by rw [HSM.out, hm5], by have := hp.1; omega, HC4, HK4, Lib.hid fun i hi => by
              by_cases e : i = k
              · subst e
                rw [HYY.out]
                exact ⟨hp.2.1, hp.2.2⟩
              · exact HA.out i (by omega)⟩
            case measure => simp [intOf]; omega
        · have hkn : k = na := by omega
          subst hkn
          have hdd : decide ((k : Int) < k) = false := by rw [decide_eq_false_iff_not]; omega
          go_wp2_with fail
          go_ret
          have h9 := maxN_lub (f := fun i => (xs i).depth) (m := 16 - d) (n := k) fun i hi => by have := (HA.out i hi).1; show (xs i).depth ≤ 16 - d; omega
          exact ⟨true, m, rfl, ⟨fun _ => ⟨by rw [HD.out.1]; omega, by rw [HD.out.2.1]; omega, HD.out.2.2.2 ⟨HNQ.out, fun i hi => (HA.out i hi).2⟩⟩, fun _ => rfl⟩, fun _ => by rw [HD.out.1]; omega, by omega, HC1.out, HK.out⟩

/-- the whole check -/
theorem Ex.ok_iff (e : Ex) : ValidP e 1 0 ↔ e.ok := by
  unfold ValidP Ex.ok
  constructor
  · rintro ⟨h1, h2, h3⟩; exact ⟨by omega, by omega, h3⟩
  · rintro ⟨h1, h2, h3⟩; exact ⟨by omega, by omega, h3⟩
set_option maxRecDepth 100000 in
set_option maxHeartbeats 1000000 in
theorem evalid_any (e : Ex) (a : EA) (w : World) (ht : Tab w) (hx : ExAt w w.heap.size e a) : Calls Tryz.prog 98 #[.agg (e.cells a)] w (IffPost e.ok w) := by
  have HTB := Lib.hid ht
  have HX := Lib.hid hx
  have HXI := Lib.hid ex_info
  cases e with
  | bot => exact hx.elim
  | mk op name nw ws lo hi na xs =>
  obtain ⟨Aw, cw, Aa, ca⟩ := a
  have hpos := ht.pos
  clear ht hx
  unfold Ex.cells Ex.row
  simp only
  go_enter Tryz.func98, Tryz.ntmps98
  go_upto_region 2 with (fail)
  have HB : Hid (Below w.heap.size w ((w.alloc (.cells #[.int .i64 op, .string name, .slice Aw nw cw, .int .i64 lo, .int .i64 hi, .slice Aa na ca] 43)).alloc (.cells #[.int .i64 0] 3))) := Lib.hid (below_two _ _ _)
  have HE := Lib.hid ((Has.new w #[.int .i64 op, .string name, .slice Aw nw cw, .int .i64 lo, .int .i64 hi, .slice Aa na ca] 43).alloc (.cells #[.int .i64 0] 3))
  have HC := Lib.hid (Has.new' (w.alloc (.cells #[.int .i64 op, .string name, .slice Aw nw cw, .int .i64 lo, .int .i64 hi, .slice Aa na ca] 43)) (w.heap.size + 1) #[.int .i64 0] 3 (by simp))
  obtain ⟨W, hW⟩ : ∃ W, (w.alloc (.cells #[.int .i64 op, .string name, .slice Aw nw cw, .int .i64 lo, .int .i64 hi, .slice Aa na ca] 43)).alloc (.cells #[.int .i64 0] 3) = W := ⟨_, rfl⟩
  rw [hW] at HB HE HC ⊢
  clear hW
  have HV := Lib.hid (valid_any (.mk op name nw ws lo hi na xs) ⟨Aw, cw, Aa, ca⟩ 1 0 (w.heap.size + 1) W (HTB.out.below HB.out hpos) (HX.out.below HB.out (Nat.le_succ _)) HC.out (by omega) (by omega) (by omega))
  unfold Ex.cells Ex.row at HV
  simp only at HV
  obtain ⟨e0, e1, e2⟩ := HE.out.rules
  go_wp2_with fail
  refine HV.out.mono ?_
  rintro e w5 ⟨b, m2, rfl, hb, _, _, _, hk5⟩
  have HBB := Lib.hid hb
  have HK := Lib.hid hk5
  clear hb hk5 HV HC HE e0 e1 e2
  go_wp2_with fail
  go_ret
  exact ⟨b, rfl, HBB.out.trans (Ex.ok_iff _), HB.out.trans (HK.out.below (Nat.le_succ _) HB.out.size)⟩
end Go.Proofs.YtlbkhhbbkedhkaaGreatDoor
