/- Small words for walks over calls that make memory. No program in sight. A slice of structs of two numbers, as two functions. No program in sight. A row of cells that the call has made whole, as a function. No program in sight. The reference's SameInts: two lists of the same numbers. A slice of structs of two numbers that the call has appended together. No program in sight. Expressions, write-backs, clauses and wordings: as values, and as they lie in memory. No program in sight. -/
import Derived.Test.YtlbkhhbbkedhkaaGreatDoorMa02
import Derived.Deep.Slices
import Derived.Test.YtlbkhhbbkedhkaaGreatDoorProg
import Derived.Lib.Hide
import Derived.Deep.QuietTactic
import Derived.BigQuiet
namespace Go.Proofs.YtlbkhhbbkedhkaaGreatDoor
open Go.RowKit

/-- what a call that makes memory leaves alone, as two rules of the walk -/
theorem bcell {W w1 : World} (hb : Below W.heap.size W w1) :
    (∀ b o, b < W.heap.size → w1.cell? ⟨b, o, none⟩ = W.cell? ⟨b, o, none⟩) ∧ (∀ b o, b < W.heap.size → w1.frozen? ⟨b, o, none⟩ = W.frozen? ⟨b, o, none⟩) ∧ W.heap.size ≤ w1.heap.size :=
  ⟨fun _ _ h => hb.cell h, fun _ _ h => hb.frozen h, hb.size⟩

/-- a block that is known whole, as rules of the walk -/
theorem Has.rules {w : World} {b : Nat} {cs : Array Value} {t : TypeId} (h : Has w b cs t) :
    (∀ i, w.cell? ⟨b, i, none⟩ = cs[i]?) ∧ (∀ i, w.frozen? ⟨b, i, none⟩ = false) ∧ b < w.heap.size := ⟨h.cell, h.free, h.lt⟩

/-- nothing that was there has changed but block b -/
structure Keeps (b : Nat) (w w' : World) : Prop where
  os : w'.os = w.os
  tape : w'.tape = w.tape
  output : w'.output = w.output
  size : w.heap.size ≤ w'.heap.size
  block : ∀ k, k < w.heap.size → k ≠ b → w'.heap[k]? = w.heap[k]?

section
variable {w w' w'' a : World} {b B : Nat}
theorem Keeps.refl (b : Nat) (w : World) : Keeps b w w := ⟨rfl, rfl, rfl, Nat.le_refl _, fun _ _ _ => rfl⟩
theorem Keeps.trans (h : Keeps b w w') (k : Keeps b w' w'') : Keeps b w w'' :=
  ⟨k.os.trans h.os, k.tape.trans h.tape, k.output.trans h.output, Nat.le_trans h.size k.size, fun i hi hn => (k.block i (Nat.lt_of_lt_of_le hi h.size) hn).trans (h.block i hi hn)⟩
theorem Keeps.alloc (h : Keeps b a w) (o : Obj) : Keeps b a (w.alloc o) :=
  ⟨h.os, h.tape, h.output, by have := h.size; simp; omega, fun i hi hn => (Below.heap_alloc w o i (Nat.lt_of_lt_of_le hi h.size)).trans (h.block i hi hn)⟩
theorem Keeps.drewN (h : Keeps b a w) (n : Nat) : Keeps b a (w.drewN n) := ⟨h.os, h.tape, h.output, h.size, h.block⟩
theorem Keeps.put (h : Keeps b a w) (i : Nat) (u : Value) : Keeps b a (w.setCell ⟨b, i, none⟩ u) :=
  ⟨h.os, h.tape, h.output, by have := h.size; simp; omega, fun k hk hn => (Below.heap_setCell w ⟨b, i, none⟩ u k hn).trans (h.block k hk hn)⟩
theorem Keeps.far (h : Keeps b a w) {p : Addr} (hp : a.heap.size ≤ p.block) (u : Value) : Keeps b a (w.setCell p u) :=
  ⟨h.os, h.tape, h.output, by have := h.size; simp; omega, fun k hk hn => (Below.heap_setCell w p u k (by omega)).trans (h.block k hk hn)⟩
theorem Keeps.of_below (h : Below w.heap.size w w') (b : Nat) : Keeps b w w' := ⟨h.os, h.tape, h.output, h.size, fun k hk _ => h.block k hk⟩
theorem Keeps.below (h : Keeps b w w') (hb : B ≤ b) (hw : B ≤ w.heap.size) : Below B w w' := ⟨h.os, h.tape, h.output, h.size, fun k hk => h.block k (by omega) (by omega)⟩
theorem Keeps.new (h : Keeps b w w') (hb : w.heap.size ≤ b) : Below w.heap.size w w' := h.below hb (Nat.le_refl _)
theorem Has.keeps {g : Nat} {cs : Array Value} {t : TypeId} (h : Has w g cs t) (hk : Keeps b w w') (hn : g ≠ b) : Has w' g cs t := (hk.block g h.lt hn).trans h
theorem Cells.keeps {A : Option Addr} {n : Nat} {f : Nat → Value} (h : Cells w B A n f) (hk : Keeps b w w') (hb : B ≤ b) : Cells w' B A n f := fun hn => by
  obtain ⟨ad, e, hlt, hc⟩ := h hn
  exact ⟨ad, e, hlt, fun j hj => by
    have h1 := hc j hj
    have h2 := cell_lt h1
    rw [add_block] at h2
    exact (World.cell?_of_block (w := w) (hk.block _ (by rw [add_block]; exact h2) (by rw [add_block]; omega))).trans h1⟩
end
end Go.Proofs.YtlbkhhbbkedhkaaGreatDoor
namespace Go.Proofs.YtlbkhhbbkedhkaaGreatDoor
open Go.RowKit

def pairAt (f g : Nat → Int) (j : Nat) : Value := if j % 2 = 0 then .int .i64 (f (j / 2)) else .int .i64 (g (j / 2))

/-- n structs of two numbers -/
def Pairs (w : World) (B : Nat) (A : Option Addr) (n : Nat) (f g : Nat → Int) : Prop := Cells w B A (n * 2) (pairAt f g)

theorem spot_none {w : World} {a : Addr} {v : Value} (h : w.cell? a = some v) : a = ⟨a.block, a.off, none⟩ := by
  obtain ⟨b, o, s⟩ := a
  cases s with
  | none => rfl
  | some s =>
    simp only [World.cell?] at h
    split at h <;> simp at h

theorem Cells.plain {w : World} {B n : Nat} {A : Option Addr} {f : Nat → Value} (h : Cells w B A n f) (hn : 0 < n) :
    ∃ b o, A = some ⟨b, o, none⟩ ∧ b < B ∧ ∀ j, j < n → w.cell? ⟨b, o + j, none⟩ = some (f j) := by
  obtain ⟨ad, e, hb, hc⟩ := h hn
  have h0 := hc 0 hn
  have e0 : ad.add 0 = ad := by simp [Addr.add]
  rw [e0] at h0
  have es := spot_none h0
  refine ⟨ad.block, ad.off, by rw [e, ← es], hb, fun j hj => ?_⟩
  have h1 := hc j hj
  rw [es, Go.WideShapes.add_plain] at h1
  exact h1

section
variable {w w' : World} {B B' n : Nat} {A : Option Addr} {f g : Nat → Int}
theorem Pairs.get {j : Nat} (h : Pairs w B A n f g) (hj : j < n) : ∃ b o, A = some ⟨b, o, none⟩ ∧ b < B ∧ w.cell? ⟨b, o + j * 2, none⟩ = some (.int .i64 (f j)) ∧ w.cell? ⟨b, o + j * 2 + 1, none⟩ = some (.int .i64 (g j)) := by
  obtain ⟨b, o, e, hb, hc⟩ := Cells.plain h (by omega)
  have h1 := hc (j * 2) (by omega)
  have h2 := hc (j * 2 + 1) (by omega)
  rw [pairAt, if_pos (by omega), show j * 2 / 2 = j by omega] at h1
  rw [pairAt, if_neg (by omega), show (j * 2 + 1) / 2 = j by omega] at h2
  exact ⟨b, o, e, hb, h1, h2⟩
theorem Pairs.below (h : Pairs w B A n f g) (hb : Below B w w') : Pairs w' B A n f g := Cells.below h hb
theorem Pairs.mono (h : Pairs w B A n f g) (hB : B ≤ B') : Pairs w B' A n f g := Cells.mono h hB
theorem Pairs.drewN (h : Pairs w B A n f g) (k : Nat) : Pairs (w.drewN k) B A n f g := h
theorem Pairs.alloc (h : Pairs w B A n f g) (hB : B ≤ w.heap.size) (o : Obj) : Pairs (w.alloc o) B A n f g := Cells.alloc h hB o
theorem Pairs.keeps {b : Nat} (h : Pairs w B A n f g) (hk : Keeps b w w') (hb : B ≤ b) : Pairs w' B A n f g := Cells.keeps h hk hb
theorem Pairs.zero : Pairs w B A 0 f g := Cells.zero
end
end Go.Proofs.YtlbkhhbbkedhkaaGreatDoor
namespace Go.Proofs.YtlbkhhbbkedhkaaGreatDoor
open Go.RowKit

/-- block g is n cells of type t, the j-th of them h j -/
def Row (w : World) (g n : Nat) (t : TypeId) (h : Nat → Value) : Prop := ∃ cur : Array Value, Has w g cur t ∧ cur.size = n ∧ ∀ j, j < n → cur[j]? = some (h j)

section
variable {w w' : World} {g n B : Nat} {t : TypeId} {h : Nat → Value}
theorem Row.lt (hr : Row w g n t h) : g < w.heap.size := by obtain ⟨_, hh, _⟩ := hr; exact hh.lt
theorem Row.cell (hr : Row w g n t h) (j : Nat) (hj : j < n) : w.cell? ⟨g, j, none⟩ = some (h j) := by obtain ⟨_, hh, _, hc⟩ := hr; rw [hh.cell]; exact hc j hj
theorem Row.free (hr : Row w g n t h) (j : Nat) : w.frozen? ⟨g, j, none⟩ = false := by obtain ⟨_, hh, _⟩ := hr; exact hh.free j
theorem Row.below (hr : Row w g n t h) (hb : Below B w w') (hg : g < B) : Row w' g n t h := by obtain ⟨c, hh, h1, h2⟩ := hr; exact ⟨c, hh.below hb hg, h1, h2⟩
theorem Row.keeps {b : Nat} (hr : Row w g n t h) (hk : Keeps b w w') (hn : g ≠ b) : Row w' g n t h := by obtain ⟨c, hh, h1, h2⟩ := hr; exact ⟨c, hh.keeps hk hn, h1, h2⟩
theorem Row.alloc (hr : Row w g n t h) (o : Obj) : Row (w.alloc o) g n t h := by obtain ⟨c, hh, h1, h2⟩ := hr; exact ⟨c, hh.alloc o, h1, h2⟩
theorem Row.drewN (hr : Row w g n t h) (k : Nat) : Row (w.drewN k) g n t h := hr
theorem Row.drew (hr : Row w g n t h) : Row w.drew g n t h := hr
theorem Row.put (hr : Row w g n t h) (j : Nat) (u : Value) : Row (w.setCell ⟨g, j, none⟩ u) g n t (fun i => if i = j then u else h i) := by
  obtain ⟨c, hh, h1, h2⟩ := hr
  refine ⟨_, hh.put j u, by simpa using h1, fun i hi => ?_⟩
  rw [Array.getElem?_setIfInBounds]
  by_cases e : j = i
  · subst e; simp; omega
  · rw [if_neg e]
    simp only [if_neg (Ne.symm e)]
    exact h2 i hi
theorem Row.far (hr : Row w g n t h) {p : Addr} (hp : g ≠ p.block) (u : Value) : Row (w.setCell p u) g n t h := by obtain ⟨c, hh, h1, h2⟩ := hr; exact ⟨c, hh.far hp u, h1, h2⟩
theorem Row.congr (hr : Row w g n t h) {h' : Nat → Value} (e : ∀ j, j < n → h j = h' j) : Row w g n t h' := by
  obtain ⟨c, hh, h1, h2⟩ := hr
  exact ⟨c, hh, h1, fun j hj => by rw [h2 j hj, e j hj]⟩
theorem Row.cells (hr : Row w g n t h) : Cells w w.heap.size (some ⟨g, 0, none⟩) n h := fun _ =>
  ⟨_, rfl, hr.lt, fun j hj => by rw [Go.WideShapes.add_plain, Nat.zero_add]; exact hr.cell j hj⟩

/-- a row that was just made whole -/
theorem Row.made {base size : Nat} {e : TypeId} {xs : List Value} (ho : w.ownsRow base e size (.slice (some ⟨g, 0, none⟩) n n) n xs) (hx : ∀ j, j < n * size → xs[j]? = some (h j)) : Row w g (n * size) e h := by
  rcases ho.2 with ⟨e1, _⟩ | ⟨g', cap, cur, e1, _, hg, _, _, hcs, htake⟩
  · cases e1
  · injection e1 with e1 _ e3
    injection e1 with e1
    injection e1 with e1
    subst e1 e3
    refine ⟨cur, hg, hcs, fun j hj => ?_⟩
    have := hx j hj
    rw [← htake, List.getElem?_take_of_lt hj] at this
    rw [← this, Array.getElem?_toList]

/-- the same, whatever it holds -/
theorem Row.some_made {base : Nat} {e : TypeId} {xs : List Value} (ho : w.ownsRow base e 1 (.slice (some ⟨g, 0, none⟩) n n) n xs) : ∃ h : Nat → Value, Row w g n e h := by
  have hl := ho.1
  refine ⟨fun j => xs.getD j undef, ?_⟩
  have := Row.made (h := fun j => xs.getD j undef) ho fun j hj => by
    rw [List.getElem?_eq_getElem (by omega)]
    simp [List.getD, List.getElem?_eq_getElem (show j < xs.length by omega)]
  rwa [Nat.mul_one] at this
end
end Go.Proofs.YtlbkhhbbkedhkaaGreatDoor
namespace Go.Proofs.YtlbkhhbbkedhkaaGreatDoor
open Go.RowKit

/-- a slice of n numbers -/
def Nums (w : World) (B : Nat) (A : Option Addr) (n : Nat) (f : Nat → Int) : Prop := Cells w B A n fun j => .int .i64 (f j)

section
variable {w w' : World} {B B' n : Nat} {A : Option Addr} {f g : Nat → Int}
theorem Nums.get {j : Nat} (h : Nums w B A n f) (hj : j < n) : ∃ b o, A = some ⟨b, o, none⟩ ∧ b < B ∧ w.cell? ⟨b, o + j, none⟩ = some (.int .i64 (f j)) := by
  obtain ⟨b, o, e, hb, hc⟩ := Cells.plain h (by omega)
  exact ⟨b, o, e, hb, hc j hj⟩
theorem Nums.below (h : Nums w B A n f) (hb : Below B w w') : Nums w' B A n f := Cells.below h hb
theorem Nums.mono (h : Nums w B A n f) (hB : B ≤ B') : Nums w B' A n f := Cells.mono h hB
theorem Nums.drewN (h : Nums w B A n f) (k : Nat) : Nums (w.drewN k) B A n f := h
theorem Nums.alloc (h : Nums w B A n f) (hB : B ≤ w.heap.size) (o : Obj) : Nums (w.alloc o) B A n f := Cells.alloc h hB o
theorem Nums.zero : Nums w B A 0 f := Cells.zero
theorem Nums.congr (h : Nums w B A n f) (e : ∀ j, j < n → f j = g j) : Nums w B A n g := Cells.congr h fun j hj => by rw [e j hj]
end

set_option maxHeartbeats 1000000 in
theorem same_yes (A A2 : Option Addr) (n c c2 : Nat) (f : Nat → Int) (B B2 : Nat) (w : World) (hn : n ≤ 9223372036854775807) (h1 : Nums w B A n f) (h2 : Nums w B2 A2 n f) :
    Calls Tryz.prog 9 #[.slice A n c, .slice A2 n c2] w fun e w' => e = .returned (.bool true) ∧ ∃ m, w' = w.drewN m := by
  have H1 := Lib.hid h1
  have H2 := Lib.hid h2
  clear h1 h2
  go_enter Tryz.func9, Tryz.ntmps9
  go_wp2
  go_loopw [5] (fun i wr => ∃ k : Nat, k ≤ n ∧ i = .int .i64 k ∧ ∃ m, wr = w.drewN m) (fun i _ => n - (intOf i).toNat)
  case atStart => exact ⟨0, Nat.zero_le _, rfl, 0, rfl⟩
  case round =>
    obtain ⟨k, hk, rfl, m, rfl⟩ := hrel
    by_cases hlt : k < n
    · obtain ⟨b, o, rfl, _, hc⟩ := H1.out.get hlt
      obtain ⟨b', o', rfl, _, hc'⟩ := H2.out.get hlt
      obtain ⟨x, hx⟩ : ∃ x, f k = x := ⟨_, rfl⟩
      rw [hx] at hc hc'
      have hk0 : (0 : Int) ≤ k := by omega
      have hk1 : (k : Int) < n := by omega
      clear hx
      go_wp2
      go_quiet (fail)
      go_wp2
      go_roundw
      case rel => exact ⟨k + 1, by omega, by go_num, _, by first | rfl | exact World.drewN_drewN _ _ _⟩
      case measure => simp [intOf]; omega
    · go_wp2
      go_ret
      exact ⟨rfl, m, rfl⟩
end Go.Proofs.YtlbkhhbbkedhkaaGreatDoor
namespace Go.Proofs.YtlbkhhbbkedhkaaGreatDoor
open Go.RowKit

def fstOf (ps : List (Int × Int)) (j : Nat) : Int := (ps.getD j (0, 0)).1
def sndOf (ps : List (Int × Int)) (j : Nat) : Int := (ps.getD j (0, 0)).2
def cellsOf (ps : List (Int × Int)) : List Value := ps.flatMap fun a => [.int .i64 a.1, .int .i64 a.2]

theorem cellsOf_snoc (ps : List (Int × Int)) (a : Int × Int) : cellsOf (ps ++ [a]) = cellsOf ps ++ [.int .i64 a.1, .int .i64 a.2] := by simp [cellsOf]
theorem cellsOf_length (ps : List (Int × Int)) : (cellsOf ps).length = ps.length * 2 := by
  induction ps with
  | nil => rfl
  | cons a t ih =>
    have : cellsOf (a :: t) = .int .i64 a.1 :: .int .i64 a.2 :: cellsOf t := by simp [cellsOf]
    rw [this]; simp only [List.length_cons, ih]; omega
theorem cellsOf_get (ps : List (Int × Int)) (j : Nat) (h : j < ps.length * 2) : (cellsOf ps)[j]? = some (pairAt (fstOf ps) (sndOf ps) j) := by
  induction ps generalizing j with
  | nil => simp at h
  | cons a t ih =>
    have e : cellsOf (a :: t) = .int .i64 a.1 :: .int .i64 a.2 :: cellsOf t := by simp [cellsOf]
    rw [e]
    match j, h with
    | 0, _ => rfl
    | 1, _ => rfl
    | j + 2, h =>
      simp only [List.length_cons] at h
      have := ih j (by omega)
      simp only [List.getElem?_cons_succ, this]
      unfold pairAt fstOf sndOf
      rw [show (j + 2) % 2 = j % 2 by omega, show (j + 2) / 2 = j / 2 + 1 by omega]
      simp

theorem Pairs.of_own {w : World} {base : Nat} {e : TypeId} {n c : Nat} {A : Option Addr} {ps : List (Int × Int)} (h : w.ownsRow base e 2 (.slice A n c) n (cellsOf ps)) : Pairs w w.heap.size A n (fstOf ps) (sndOf ps) :=
  Cells.of_own h _ fun j hj => by
    have h1 := cellsOf_get ps j (by rw [← cellsOf_length]; exact hj)
    rw [List.getElem?_eq_getElem hj] at h1
    injection h1

theorem Keeps.grown {b : Nat} {a w w' : World} {row : Option Nat} (h : Keeps b a w) (hg : w.grownBy w' row) (hr : ∀ k, row = some k → a.heap.size ≤ k) : Keeps b a w' := by
  have hb : Below a.heap.size w w' := (Below.refl a.heap.size w).grown hg h.size hr
  exact ⟨hb.os.trans h.os, hb.tape.trans h.tape, hb.output.trans h.output, Nat.le_trans h.size hb.size, fun k hk hn => (hb.block k hk).trans (h.block k hk hn)⟩

/-- cells of a block that a deck's function leaves alone -/
theorem Cells.keeps_ne {b n : Nat} {w w' : World} {A : Option Addr} {f : Nat → Value} (h : Cells w w.heap.size A n f) (hk : Keeps b w w') (hA : ∀ ad, A = some ad → ad.block ≠ b) : Cells w' w'.heap.size A n f := fun hn => by
  obtain ⟨ad, e, hlt, hc⟩ := h hn
  exact ⟨ad, e, Nat.lt_of_lt_of_le hlt hk.size, fun j hj => by
    have h1 := hc j hj
    exact (World.cell?_of_block (w := w) (hk.block _ (by rw [add_block]; exact hlt) (by rw [add_block]; exact hA ad e))).trans h1⟩
theorem Pairs.keeps_ne {b n : Nat} {w w' : World} {A : Option Addr} {f g : Nat → Int} (h : Pairs w w.heap.size A n f g) (hk : Keeps b w w') (hA : ∀ ad, A = some ad → ad.block ≠ b) : Pairs w' w'.heap.size A n f g := Cells.keeps_ne h hk hA

theorem own_keeps {b base size n : Nat} {e : TypeId} {v : Value} {xs : List Value} {w w' : World} (h : w.ownsRow base e size v n xs) (hk : Keeps b w w') (hb : b < base) : w'.ownsRow base e size v n xs := by
  refine ⟨h.1, ?_⟩
  rcases h.2 with h0 | ⟨g, cap, cur, hv, hg, hh, hr⟩
  · exact .inl h0
  · have hlt : g < w.heap.size := Has.lt (t := e) (cs := cur) hh
    exact .inr ⟨g, cap, cur, hv, hg, (hk.block g hlt (by omega)).trans hh, hr⟩
theorem own_below {base size n : Nat} {e : TypeId} {v : Value} {xs : List Value} {w w' : World} (h : w.ownsRow base e size v n xs) (hb : Below w.heap.size w w') : w'.ownsRow base e size v n xs := by
  refine ⟨h.1, ?_⟩
  rcases h.2 with h0 | ⟨g, cap, cur, hv, hg, hh, hr⟩
  · exact .inl h0
  · have hlt : g < w.heap.size := Has.lt (t := e) (cs := cur) hh
    exact .inr ⟨g, cap, cur, hv, hg, (hb.block g hlt).trans hh, hr⟩
end Go.Proofs.YtlbkhhbbkedhkaaGreatDoor
namespace Go.Proofs.YtlbkhhbbkedhkaaGreatDoor
open Go.RowKit
set_option linter.unusedVariables false

/-- an expression ('bot' is none: it lies nowhere): operator, name, words, bounds, arguments -/
inductive Ex where
  | bot
  | mk (op : Int) (name : ByteArray) (nw : Nat) (ws : Nat → ByteArray) (lo hi : Int) (na : Nat) (xs : Nat → Ex)
/-- a write-back: name, condition, exceptions -/
inductive Wb where
  | bot
  | mk (name : ByteArray) (e : Ex) (n : Nat) (us : Nat → Wb)
/-- a clause -/
structure Cl where
  kind : Int
  name : ByteArray
  e : Ex
  n : Nat
  us : Nat → Wb
  amt : Int
/-- an endorsement -/
structure En where
  pf : Int
  pt : Int
  nr : Nat
  rm : Nat → ByteArray
  nc : Nat
  cs : Nat → Cl
/-- a wording -/
structure Wr where
  nc : Nat
  cs : Nat → Cl
  ne : Nat
  es : Nat → En

/-- the addresses of an expression's lists -/
structure EA where
  Aw : Option Addr
  cw : Nat
  Aa : Option Addr
  ca : Nat
/-- the addresses of a write-back, or of a clause -/
structure WA where
  ea : EA
  A : Option Addr
  c : Nat
/-- the addresses of an endorsement -/
structure NA where
  Ar : Option Addr
  cr : Nat
  Ac : Option Addr
  cc : Nat

def Ex.cell (e : Ex) (a : EA) (k : Nat) : Value :=
  match e with
  | .bot => match k with
    | 0 => .int .i64 0
    | 1 => .string ByteArray.empty
    | 2 => .slice a.Aw 0 a.cw
    | 3 => .int .i64 0
    | 4 => .int .i64 0
    | _ => .slice a.Aa 0 a.ca
  | .mk op name nw _ lo hi na _ => match k with
    | 0 => .int .i64 op
    | 1 => .string name
    | 2 => .slice a.Aw nw a.cw
    | 3 => .int .i64 lo
    | 4 => .int .i64 hi
    | _ => .slice a.Aa na a.ca
abbrev Ex.row (op : Int) (name : ByteArray) (nw : Nat) (lo hi : Int) (na : Nat) (a : EA) : Array Value := #[.int .i64 op, .string name, .slice a.Aw nw a.cw, .int .i64 lo, .int .i64 hi, .slice a.Aa na a.ca]
def Ex.cells (e : Ex) (a : EA) : Array Value := match e with
  | .bot => Ex.row 0 ByteArray.empty 0 0 0 0 a
  | .mk op name nw _ lo hi na _ => Ex.row op name nw lo hi na a
def Wb.cell (b : Wb) (a : WA) (k : Nat) : Value :=
  match b with
  | .bot => match k with
    | 0 => .string ByteArray.empty
    | 7 => .slice a.A 0 a.c
    | k => Ex.bot.cell a.ea (k - 1)
  | .mk name e n _ => match k with
    | 0 => .string name
    | 7 => .slice a.A n a.c
    | k => e.cell a.ea (k - 1)
def Cl.cell (b : Cl) (a : WA) (k : Nat) : Value :=
  match k with
  | 0 => .int .i64 b.kind
  | 1 => .string b.name
  | 8 => .slice a.A b.n a.c
  | 9 => .int .i64 b.amt
  | k => b.e.cell a.ea (k - 2)
def En.cell (b : En) (a : NA) (k : Nat) : Value :=
  match k with
  | 0 => .int .i64 b.pf
  | 1 => .int .i64 b.pt
  | 2 => .slice a.Ar b.nr a.cr
  | _ => .slice a.Ac b.nc a.cc

/-- a list of texts -/
def Strs (w : World) (B : Nat) (A : Option Addr) (n : Nat) (f : Nat → ByteArray) : Prop := Cells w B A n fun j => .string (f j)
def big : Nat := 9223372036854775807

/-- the lists of an expression lie below block B -/
def ExAt (w : World) (B : Nat) : Ex → EA → Prop
  | .bot, _ => False
  | .mk _ _ nw ws _ _ na xs, a => (nw ≤ big ∧ nw ≤ a.cw) ∧ (na ≤ big ∧ na ≤ a.ca) ∧ Strs w B a.Aw nw ws ∧ ∃ P : Nat → EA, Cells w B a.Aa (na * 6) (fun j => (xs (j / 6)).cell (P (j / 6)) (j % 6)) ∧ ∀ i, i < na → ExAt w B (xs i) (P i)
def WbAt (w : World) (B : Nat) : Wb → WA → Prop
  | .bot, _ => False
  | .mk _ e n us, a => n ≤ big ∧ ExAt w B e a.ea ∧ ∃ P : Nat → WA, Cells w B a.A (n * 8) (fun j => (us (j / 8)).cell (P (j / 8)) (j % 8)) ∧ ∀ i, i < n → WbAt w B (us i) (P i)
/-- an expression and a write-back that lie somewhere: the words say something -/
theorem ExAt.lies (w : World) (B : Nat) : ExAt w B (.mk 1 ByteArray.empty 0 (fun _ => ByteArray.empty) 0 0 0 fun _ => .bot) ⟨none, 0, none, 0⟩ := ⟨⟨Nat.zero_le _, Nat.le_refl _⟩, ⟨Nat.zero_le _, Nat.le_refl _⟩, Cells.zero, fun _ => ⟨none, 0, none, 0⟩, Cells.zero, fun i hi => by omega⟩
theorem WbAt.lies (w : World) (B : Nat) : WbAt w B (.mk ByteArray.empty (.mk 1 ByteArray.empty 0 (fun _ => ByteArray.empty) 0 0 0 fun _ => .bot) 0 fun _ => .bot) ⟨⟨none, 0, none, 0⟩, none, 0⟩ := ⟨Nat.zero_le _, ExAt.lies w B, fun _ => ⟨⟨none, 0, none, 0⟩, none, 0⟩, Cells.zero, fun i hi => by omega⟩
/-- a list of write-backs -/
def WbsAt (w : World) (B : Nat) (A : Option Addr) (n : Nat) (us : Nat → Wb) : Prop :=
  n ≤ big ∧ ∃ P : Nat → WA, Cells w B A (n * 8) (fun j => (us (j / 8)).cell (P (j / 8)) (j % 8)) ∧ ∀ i, i < n → WbAt w B (us i) (P i)
def ClAt (w : World) (B : Nat) (b : Cl) (a : WA) : Prop := ExAt w B b.e a.ea ∧ WbsAt w B a.A b.n b.us
def ClsAt (w : World) (B : Nat) (A : Option Addr) (n : Nat) (cs : Nat → Cl) : Prop :=
  n ≤ big ∧ ∃ P : Nat → WA, Cells w B A (n * 10) (fun j => (cs (j / 10)).cell (P (j / 10)) (j % 10)) ∧ ∀ i, i < n → ClAt w B (cs i) (P i)
def EnAt (w : World) (B : Nat) (b : En) (a : NA) : Prop := (b.nr ≤ big ∧ b.nr ≤ a.cr) ∧ Strs w B a.Ar b.nr b.rm ∧ ClsAt w B a.Ac b.nc b.cs
def EnsAt (w : World) (B : Nat) (A : Option Addr) (n : Nat) (es : Nat → En) : Prop :=
  n ≤ big ∧ ∃ P : Nat → NA, Cells w B A (n * 4) (fun j => (es (j / 4)).cell (P (j / 4)) (j % 4)) ∧ ∀ i, i < n → EnAt w B (es i) (P i)
/-- a wording with its lists at A and E -/
def WrAt (w : World) (B : Nat) (x : Wr) (A E : Option Addr) : Prop := ClsAt w B A x.nc x.cs ∧ EnsAt w B E x.ne x.es

section
variable {w w' : World} {B B' : Nat}
theorem ExAt.keep (hk : ∀ p : Addr, p.block < B → w'.cell? p = w.cell? p) (hB : B ≤ B') (e : Ex) : ∀ a, ExAt w B e a → ExAt w' B' e a := by
  induction e with
  | bot => exact fun _ h => h
  | mk op name nw ws lo hi na xs ih =>
    rintro a ⟨h1, h2, h3, P, h4, h5⟩
    exact ⟨h1, h2, (h3.keep hk).mono hB, P, (h4.keep hk).mono hB, fun i hi => ih i _ (h5 i hi)⟩
theorem WbAt.keep (hk : ∀ p : Addr, p.block < B → w'.cell? p = w.cell? p) (hB : B ≤ B') (e : Wb) : ∀ a, WbAt w B e a → WbAt w' B' e a := by
  induction e with
  | bot => exact fun _ h => h
  | mk name e n us ih =>
    rintro a ⟨h1, h2, P, h4, h5⟩
    exact ⟨h1, h2.keep hk hB, P, (h4.keep hk).mono hB, fun i hi => ih i _ (h5 i hi)⟩
theorem WbsAt.keep {A : Option Addr} {n : Nat} {us : Nat → Wb} (hk : ∀ p : Addr, p.block < B → w'.cell? p = w.cell? p) (hB : B ≤ B') : WbsAt w B A n us → WbsAt w' B' A n us
  | ⟨h1, P, h4, h5⟩ => ⟨h1, P, (h4.keep hk).mono hB, fun i hi => (WbAt.keep hk hB _) _ (h5 i hi)⟩
theorem ClAt.keep {b : Cl} {a : WA} (hk : ∀ p : Addr, p.block < B → w'.cell? p = w.cell? p) (hB : B ≤ B') (h : ClAt w B b a) : ClAt w' B' b a :=
  ⟨ExAt.keep hk hB _ _ h.1, WbsAt.keep hk hB h.2⟩
theorem ClsAt.keep {A : Option Addr} {n : Nat} {cs : Nat → Cl} (hk : ∀ p : Addr, p.block < B → w'.cell? p = w.cell? p) (hB : B ≤ B') : ClsAt w B A n cs → ClsAt w' B' A n cs
  | ⟨h1, P, h4, h5⟩ => ⟨h1, P, (h4.keep hk).mono hB, fun i hi => ClAt.keep hk hB (h5 i hi)⟩
theorem EnAt.keep {b : En} {a : NA} (hk : ∀ p : Addr, p.block < B → w'.cell? p = w.cell? p) (hB : B ≤ B') (h : EnAt w B b a) : EnAt w' B' b a :=
  ⟨h.1, (h.2.1.keep hk).mono hB, ClsAt.keep hk hB h.2.2⟩
theorem EnsAt.keep {A : Option Addr} {n : Nat} {es : Nat → En} (hk : ∀ p : Addr, p.block < B → w'.cell? p = w.cell? p) (hB : B ≤ B') : EnsAt w B A n es → EnsAt w' B' A n es
  | ⟨h1, P, h4, h5⟩ => ⟨h1, P, (h4.keep hk).mono hB, fun i hi => EnAt.keep hk hB (h5 i hi)⟩
theorem WrAt.keep {x : Wr} {A E : Option Addr} (hk : ∀ p : Addr, p.block < B → w'.cell? p = w.cell? p) (hB : B ≤ B') (h : WrAt w B x A E) : WrAt w' B' x A E :=
  ⟨ClsAt.keep hk hB h.1, EnsAt.keep hk hB h.2⟩

theorem bkeeps (hb : Below B w w') : ∀ p : Addr, p.block < B → w'.cell? p = w.cell? p := fun _ hp => hb.cell hp
theorem ExAt.below {e : Ex} {a : EA} (h : ExAt w B e a) (hb : Below B w w') (hB : B ≤ B') : ExAt w' B' e a := ExAt.keep (bkeeps hb) hB _ _ h
theorem WbAt.below {e : Wb} {a : WA} (h : WbAt w B e a) (hb : Below B w w') (hB : B ≤ B') : WbAt w' B' e a := WbAt.keep (bkeeps hb) hB _ _ h
theorem WbsAt.below {A : Option Addr} {n : Nat} {us : Nat → Wb} (h : WbsAt w B A n us) (hb : Below B w w') (hB : B ≤ B') : WbsAt w' B' A n us := h.keep (bkeeps hb) hB
theorem ClAt.below {b : Cl} {a : WA} (h : ClAt w B b a) (hb : Below B w w') (hB : B ≤ B') : ClAt w' B' b a := h.keep (bkeeps hb) hB
theorem ClsAt.below {A : Option Addr} {n : Nat} {cs : Nat → Cl} (h : ClsAt w B A n cs) (hb : Below B w w') (hB : B ≤ B') : ClsAt w' B' A n cs := h.keep (bkeeps hb) hB
theorem EnAt.below {b : En} {a : NA} (h : EnAt w B b a) (hb : Below B w w') (hB : B ≤ B') : EnAt w' B' b a := h.keep (bkeeps hb) hB
theorem EnsAt.below {A : Option Addr} {n : Nat} {es : Nat → En} (h : EnsAt w B A n es) (hb : Below B w w') (hB : B ≤ B') : EnsAt w' B' A n es := h.keep (bkeeps hb) hB
theorem WrAt.below {x : Wr} {A E : Option Addr} (h : WrAt w B x A E) (hb : Below B w w') (hB : B ≤ B') : WrAt w' B' x A E := h.keep (bkeeps hb) hB

/-- the j-th element of a list of structs of c cells -/
theorem Cells.elem {A : Option Addr} {n c j : Nat} {F : Nat → Nat → Value} (hc : 0 < c) (h : Cells w B A (n * c) (fun i => F (i / c) (i % c))) (hj : j < n) :
    ∃ b o, A = some ⟨b, o, none⟩ ∧ b < B ∧ ∀ k, k < c → w.cell? ⟨b, o + j * c + k, none⟩ = some (F j k) := by
  have h0 : 0 < n * c := Nat.mul_pos (by omega) hc
  obtain ⟨b, o, e, hb, hcc⟩ := Cells.plain h h0
  refine ⟨b, o, e, hb, fun k hk => ?_⟩
  have hlt : j * c + k < n * c := by
    have := Nat.mul_le_mul_right c (show j + 1 ≤ n by omega)
    rw [Nat.succ_mul] at this
    omega
  have := hcc (j * c + k) hlt
  rw [show (j * c + k) / c = j by rw [Nat.mul_comm, Nat.mul_add_div hc, Nat.div_eq_of_lt hk, Nat.add_zero], show (j * c + k) % c = k by rw [Nat.mul_comm, Nat.mul_add_mod, Nat.mod_eq_of_lt hk]] at this
  rw [← this, Nat.add_assoc]
end
end Go.Proofs.YtlbkhhbbkedhkaaGreatDoor
