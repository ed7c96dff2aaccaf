/- Words for memory of this family of proofs: the cells of a slice as a function, what leaves them alone, and an append from such a slice. No program in sight. A block that is known whole: what reads it and what leaves it alone. No program in sight. Small words for walks over calls that make memory. No program in sight. A slice of structs of two numbers, as two functions. No program in sight. A row of cells that the call has made whole, as a function. No program in sight. The reference's SameInts: two lists of the same numbers. -/
import Derived.Below
import Derived.Laws.OwnMore
import Derived.Deep.AppendLies
import Derived.Deep.Draws
import Derived.Maps.AppendAt
import Derived.Laws.AppendOwnNone
import Derived.OwnWalk
import Derived.Deep.QuietTactic
import Derived.BigQuiet
import Derived.Laws.Rows
import Derived.Deep.Slices
import Derived.Test.YtbeikfopneeodaaGreatProg
import Derived.Lib.Hide
namespace Go.Proofs.YtbeikfopneeodaaGreat
open Go.RowKit

/-- the k-th number of a list -/
def nth (zs : List Int) (k : Nat) : Int := zs.getD k 0

theorem nth_eq (zs : List Int) (k : Nat) (h : k < zs.length) : nth zs k = zs[k] := by
  simp [nth, h]

theorem take_nth (zs : List Int) (k : Nat) (h : k < zs.length) : zs.take (k + 1) = zs.take k ++ [nth zs k] := by
  rw [List.take_succ_eq_append_getElem h, nth_eq zs k h]

theorem nth_mem (zs : List Int) (k : Nat) (h : k < zs.length) : nth zs k ∈ zs := by
  rw [nth_eq zs k h]; exact List.getElem_mem h

/-- the first n cells of a slice that lies below block B -/
def Cells (w : World) (B : Nat) (A : Option Addr) (n : Nat) (f : Nat → Value) : Prop :=
  0 < n → ∃ ad, A = some ad ∧ ad.block < B ∧ ∀ j, j < n → w.cell? (ad.add j) = some (f j)

section
variable {w w' : World} {B B' n : Nat} {A : Option Addr} {f : Nat → Value}

theorem add_block (a : Addr) (j : Nat) : (a.add j).block = a.block := by
  unfold Addr.add; split <;> rfl

theorem Cells.get {j : Nat} (h : Cells w B A n f) (hj : j < n) : ∃ ad, A = some ad ∧ ad.block < B ∧ w.cell? (ad.add j) = some (f j) := by
  obtain ⟨ad, e, hb, hc⟩ := h (by omega)
  exact ⟨ad, e, hb, hc j hj⟩

theorem Cells.zero : Cells w B A 0 f := fun h => absurd h (by omega)

theorem Cells.keep (h : Cells w B A n f) (hk : ∀ p : Addr, p.block < B → w'.cell? p = w.cell? p) : Cells w' B A n f := fun hn => by
  obtain ⟨ad, e, hb, hc⟩ := h hn
  exact ⟨ad, e, hb, fun j hj => (hk _ (by rw [add_block]; exact hb)).trans (hc j hj)⟩

theorem Cells.mono (h : Cells w B A n f) (hB : B ≤ B') : Cells w B' A n f := fun hn => by
  obtain ⟨ad, e, hb, hc⟩ := h hn
  exact ⟨ad, e, by omega, hc⟩

theorem Cells.below (h : Cells w B A n f) (hb : Below B w w') : Cells w' B A n f := h.keep fun _ hp => hb.cell hp
theorem Cells.drewN (h : Cells w B A n f) (k : Nat) : Cells (w.drewN k) B A n f := h
theorem Cells.alloc (h : Cells w B A n f) (hB : B ≤ w.heap.size) (o : Obj) : Cells (w.alloc o) B A n f :=
  h.keep fun p hp => World.cell?_alloc_lt w o p (by omega)
theorem Cells.setCell (h : Cells w B A n f) {p : Addr} (hB : B ≤ p.block) (u : Value) : Cells (w.setCell p u) B A n f :=
  h.keep fun q hq => World.cell?_setCell_other w p q u (fun e => by subst e; omega)
theorem Cells.congr (h : Cells w B A n f) {g : Nat → Value} (hg : ∀ j, j < n → f j = g j) : Cells w B A n g := fun hn => by
  obtain ⟨ad, e, hb, hc⟩ := h hn
  exact ⟨ad, e, hb, fun j hj => by rw [← hg j hj]; exact hc j hj⟩
end

/-- a slice of ints that reads as a list -/
def Ints (w : World) (B : Nat) (A : Option Addr) (zs : List Int) : Prop := Cells w B A zs.length fun j => .int .i64 (nth zs j)

/-- a row that the call owns, as cells -/
theorem Cells.of_own {w : World} {base : Nat} {e : TypeId} {size n : Nat} {A : Option Addr} {c : Nat} {xs : List Value} (h : w.ownsRow base e size (.slice A n c) n xs) (g : Nat → Value)
    (hg : ∀ j (hj : j < xs.length), xs[j] = g j) : Cells w w.heap.size A (n * size) g := fun hn => by
  have hn0 : 0 < n := Nat.pos_of_ne_zero fun e => by subst e; simp at hn
  obtain ⟨b, cap, hv, _, hlt⟩ := h.form hn0
  have hA : A = some ⟨b, 0, none⟩ := by injection hv
  subst hA
  refine ⟨_, rfl, hlt, fun j hj => ?_⟩
  have hl : j < xs.length := by rw [h.1]; exact hj
  exact h.cells (g := b) rfl j _ (by rw [List.getElem?_eq_getElem hl, hg j hl])

theorem cell_lt {w : World} {a : Addr} {v : Value} (h : w.cell? a = some v) : a.block < w.heap.size := by
  rcases Nat.lt_or_ge a.block w.heap.size with hlt | hge
  · exact hlt
  · simp [World.cell?, Array.getElem?_eq_none hge] at h

/-- an empty slice of the call's own -/
theorem own_empty (w : World) (e : TypeId) (size : Nat) : (w.alloc (.cells #[] e)).ownsRow w.heap.size e size (.slice (some ⟨w.heap.size, 0, none⟩) 0 0) 0 [] :=
  ⟨by simp, .inr ⟨w.heap.size, 0, #[], rfl, Nat.le_refl _, heap_alloc_new w _, Nat.le_refl _, Nat.zero_le _, by simp, by simp⟩⟩

/-- a row of the call's own that has a block -/
theorem own_form {w : World} {base : Nat} {e : TypeId} {size n g0 : Nat} {v : Value} {xs : List Value} (h : w.ownsRow base e size v n xs) (hat : v.ownBlock = some g0) :
    ∃ cap, v = .slice (some ⟨g0, 0, none⟩) n cap ∧ base ≤ g0 := by
  rcases h.2 with ⟨rfl, _⟩ | ⟨g, cap, cur, rfl, hb, _⟩
  · simp [Value.ownBlock] at hat
  · simp only [Value.ownBlock, Option.some.injEq] at hat
    subst hat
    exact ⟨cap, rfl, hb⟩

theorem range_map_nth (ys : List Int) (n : Nat) (h : ys.length = n) : (List.range n).map (fun j => Value.int .i64 (nth ys j)) = ys.map (Value.int .i64) := by
  subst h
  apply List.ext_getElem
  · simp
  · intro i h1 h2
    simp only [List.length_map, List.length_range] at h1
    simp [nth_eq ys i h1]

theorem below_drewN {B : Nat} {a w : World} (h : Below B a w) (n : Nat) : Below B a (w.drewN n) := ⟨h.os, h.tape, h.output, h.size, h.block⟩

section
variable {P : Program} (w : World)

/-- append of the first m elements of a slice that came in, to a row of the call's own -/
theorem run_append_cells (base : Nat) (t ty e : TypeId) (i : TypeInfo) (z : Value) (size bytes : Nat) (ht : P.underlying t = some (.slice e)) (hi : P.info? e = some i) (hz : i.zero = some z)
    (hsize : i.size = size) (hby : i.bytes = bytes) (hzs : z.cells.size = size) (hsz : 0 < size)
    (v : Value) (n : Nat) (xs : List Value) (hown : w.ownsRow base e size v n xs)
    (B : Nat) (A : Option Addr) (m c : Nat) (f : Nat → Value) (hc : Cells w B A (m * size) f) (hnil : A = none → m = 0 ∧ c = 0) (h1 : ∀ j, j < m * size → (f j).oneCell' = true)
    (h63 : n + m ≤ maxLen) (hbytes : (n + m) * bytes ≤ 140737488355328) (hbase : base ≤ w.heap.size) :
    ∃ v' w', (Builtin.append_ #[t, t] ty #[v, .slice A m c]).run P w = .ok v' w' ∧ w'.ownsRow base e size v' (n + m) (xs ++ (List.range (m * size)).map f) ∧ w.grownBy w' v.ownBlock ∧
      (v'.ownBlock = v.ownBlock ∨ v'.ownBlock = some w.heap.size) := by
  cases A with
  | none =>
    obtain ⟨rfl, rfl⟩ := hnil rfl
    exact ⟨v, w, run_append_owned_none (P := P) (w := w) base t ty e i size ht hi v n xs hown, by simpa using hown, World.grownBy.refl w _, .inl rfl⟩
  | some ad =>
    have hcell : ∀ j u, ((List.range (m * size)).map f)[j]? = some u → w.cell? (ad.add j) = some u := by
      intro j u hu
      rw [List.getElem?_map] at hu
      by_cases hj : j < m * size
      · obtain ⟨ad', e', _, hcc⟩ := hc.get hj
        injection e' with e'
        subst e'
        rw [List.getElem?_range hj] at hu
        simp only [Option.map_some, Option.some.injEq] at hu
        rw [hcc, hu]
      · rw [List.getElem?_eq_none (by simp; omega)] at hu
        simp at hu
    obtain ⟨v', w', hrun, h2, h3, _, h5⟩ := run_append_own_at (P := P) w base t ty e i z size bytes ht hi hz hsize hby hzs hsz v n xs hown ad m c ((List.range (m * size)).map f) (by simp) hcell
      (fun u hu => by obtain ⟨j, hj, rfl⟩ := List.mem_map.1 hu; exact h1 j (List.mem_range.1 hj)) h63 hbytes hbase
    exact ⟨v', w', hrun, h2, h3, h5⟩

theorem wpList_append_cells {ops : Array Oper} {rest : List Oper} {o : Oper} {a : Act} {Q : Exit → Act → World → Prop} (hgd : o.guard = none) (s x : Operand) (t : TypeId)
    (ho : o.op = .call { callee := .builtin .append, args := #[s, x], argTypes := #[t, t] })
    (base : Nat) (e : TypeId) (i : TypeInfo) (z : Value) (size bytes : Nat) (ht : P.underlying t = some (.slice e)) (hi : P.info? e = some i) (hz : i.zero = some z)
    (hsize : i.size = size) (hby : i.bytes = bytes) (hzs : z.cells.size = size) (hsz : 0 < size)
    (v : Value) (n : Nat) (xs : List Value) (hs : a.eval s = v) (hown : w.ownsRow base e size v n xs)
    (B : Nat) (A : Option Addr) (m c : Nat) (f : Nat → Value) (hx : a.eval x = .slice A m c) (hc : Cells w B A (m * size) f) (hnil : A = none → m = 0 ∧ c = 0) (h1 : ∀ j, j < m * size → (f j).oneCell' = true)
    (h63 : n + m ≤ maxLen) (hbytes : (n + m) * bytes ≤ 140737488355328) (hbase : base ≤ w.heap.size)
    (h : ∀ v' w', w'.ownsRow base e size v' (n + m) (xs ++ (List.range (m * size)).map f) → w.grownBy w' v.ownBlock → (v'.ownBlock = v.ownBlock ∨ v'.ownBlock = some w.heap.size) → wpList P ops Q rest (a.put o.dst v') w') :
    wpList P ops Q (o :: rest) a w := by
  obtain ⟨v', w', hrun, h2, h3, h4⟩ := run_append_cells (P := P) w base t o.type e i z size bytes ht hi hz hsize hby hzs hsz v n xs hown B A m c f hc hnil h1 h63 hbytes hbase
  refine wpList_plain hgd fun K hK => ?_
  unfold Oper.wp execOp
  simp only [ho, resolve, invoke, builtin, Sem.run_bind, Sem.run_pure, Result.andThen_ok, List.map_toArray, List.map_cons, List.map_nil, hs, hx, hrun]
  exact hK _ _ (h v' w' h2 h3 h4)
end

/-- contracts of quiet callees, in the form that a quiet region asks for -/
theorem quiet_left {P : Program} {f : FuncId} {args : Array Value} {w : World} {n : Nat} {v : Value}
    (h : Calls P f args (w.drewN n) fun e w' => e = .returned v ∧ w.drewN n = w') : Calls P f args (w.drewN n) fun e w'' => e = .returned v ∧ ∃ m, w'' = w.drewN m :=
  h.mono fun _ _ ⟨he, hm⟩ => ⟨he, n, hm.symm⟩
theorem quiet_more {P : Program} {f : FuncId} {args : Array Value} {w : World} {a n : Nat} {v : Value}
    (h : Calls P f args (w.drewN (a + n)) fun e w' => e = .returned v ∧ ∃ m, w' = (w.drewN (a + n)).drewN m) :
    Calls P f args (w.drewN (a + n)) fun e w'' => e = .returned v ∧ ∃ m, w'' = w.drewN (a + m) :=
  h.mono fun _ _ ⟨he, m, hm⟩ => ⟨he, n + m, by rw [hm, World.drewN_drewN, Nat.add_assoc]⟩
end Go.Proofs.YtbeikfopneeodaaGreat
namespace Go.Proofs.YtbeikfopneeodaaGreat
open Go.RowKit

/-- block b is just the cells cs of type t, none of them frozen -/
def Has (w : World) (b : Nat) (cs : Array Value) (t : TypeId) : Prop := w.heap[b]? = some (.cells cs t (0, 0))

section
variable {w w' : World} {b : Nat} {cs : Array Value} {t : TypeId}
theorem Has.lt (h : Has w b cs t) : b < w.heap.size := by
  rcases Nat.lt_or_ge b w.heap.size with hlt | hge
  · exact hlt
  · unfold Has at h; rw [Array.getElem?_eq_none hge] at h; cases h
theorem Has.cell (h : Has w b cs t) (i : Nat) : w.cell? ⟨b, i, none⟩ = cs[i]? := cell_of_row w b i cs t (0, 0) h
theorem Has.free (h : Has w b cs t) (i : Nat) : w.frozen? ⟨b, i, none⟩ = false := by
  unfold Has at h
  simp [World.frozen?, h]
theorem Has.new (w : World) (cs : Array Value) (t : TypeId) : Has (w.alloc (.cells cs t)) w.heap.size cs t := heap_alloc_new w _
theorem Has.new' (w : World) (b : Nat) (cs : Array Value) (t : TypeId) (hb : b = w.heap.size) : Has (w.alloc (.cells cs t)) b cs t := by subst hb; exact heap_alloc_new w _
theorem Has.drewN (h : Has w b cs t) (n : Nat) : Has (w.drewN n) b cs t := h
theorem Has.drew (h : Has w b cs t) : Has w.drew b cs t := h
theorem Has.alloc (h : Has w b cs t) (o : Obj) : Has (w.alloc o) b cs t := (Below.heap_alloc w o b h.lt).trans h
theorem Has.put (h : Has w b cs t) (i : Nat) (u : Value) : Has (w.setCell ⟨b, i, none⟩ u) b (cs.setIfInBounds i u) t := by
  unfold Has at h ⊢
  simp [World.setCell, Array.getElem?_modify, h]
theorem Has.far (h : Has w b cs t) {p : Addr} (hp : b ≠ p.block) (u : Value) : Has (w.setCell p u) b cs t := (Below.heap_setCell w p u b hp).trans h
theorem Has.below {B : Nat} (h : Has w b cs t) (hb : Below B w w') (hg : b < B) : Has w' b cs t := (hb.block b hg).trans h
end
end Go.Proofs.YtbeikfopneeodaaGreat
namespace Go.Proofs.YtbeikfopneeodaaGreat
open Go.RowKit

/-- what a call that makes memory leaves alone, as two rules of the walk -/
theorem bcell {W w1 : World} (hb : Below W.heap.size W w1) :
    (∀ b o, b < W.heap.size → w1.cell? ⟨b, o, none⟩ = W.cell? ⟨b, o, none⟩) ∧ (∀ b o, b < W.heap.size → w1.frozen? ⟨b, o, none⟩ = W.frozen? ⟨b, o, none⟩) ∧ W.heap.size ≤ w1.heap.size :=
  ⟨fun _ _ h => hb.cell h, fun _ _ h => hb.frozen h, hb.size⟩

/-- a block that is known whole, as rules of the walk -/
theorem Has.rules {w : World} {b : Nat} {cs : Array Value} {t : TypeId} (h : Has w b cs t) :
    (∀ i, w.cell? ⟨b, i, none⟩ = cs[i]?) ∧ (∀ i, w.frozen? ⟨b, i, none⟩ = false) ∧ b < w.heap.size := ⟨h.cell, h.free, h.lt⟩

/-- nothing that was there has changed but block b -/
structure Keeps (b : Nat) (w w' : World) : Prop where
  os : w'.os = w.os
  tape : w'.tape = w.tape
  output : w'.output = w.output
  size : w.heap.size ≤ w'.heap.size
  block : ∀ k, k < w.heap.size → k ≠ b → w'.heap[k]? = w.heap[k]?

section
variable {w w' w'' a : World} {b B : Nat}
theorem Keeps.refl (b : Nat) (w : World) : Keeps b w w := ⟨rfl, rfl, rfl, Nat.le_refl _, fun _ _ _ => rfl⟩
theorem Keeps.trans (h : Keeps b w w') (k : Keeps b w' w'') : Keeps b w w'' :=
  ⟨k.os.trans h.os, k.tape.trans h.tape, k.output.trans h.output, Nat.le_trans h.size k.size, fun i hi hn => (k.block i (Nat.lt_of_lt_of_le hi h.size) hn).trans (h.block i hi hn)⟩
theorem Keeps.alloc (h : Keeps b a w) (o : Obj) : Keeps b a (w.alloc o) :=
  ⟨h.os, h.tape, h.output, by have := h.size; simp; omega, fun i hi hn => (Below.heap_alloc w o i (Nat.lt_of_lt_of_le hi h.size)).trans (h.block i hi hn)⟩
theorem Keeps.drewN (h : Keeps b a w) (n : Nat) : Keeps b a (w.drewN n) := ⟨h.os, h.tape, h.output, h.size, h.block⟩
theorem Keeps.put (h : Keeps b a w) (i : Nat) (u : Value) : Keeps b a (w.setCell ⟨b, i, none⟩ u) :=
  ⟨h.os, h.tape, h.output, by have := h.size; simp; omega, fun k hk hn => (Below.heap_setCell w ⟨b, i, none⟩ u k hn).trans (h.block k hk hn)⟩
theorem Keeps.far (h : Keeps b a w) {p : Addr} (hp : a.heap.size ≤ p.block) (u : Value) : Keeps b a (w.setCell p u) :=
  ⟨h.os, h.tape, h.output, by have := h.size; simp; omega, fun k hk hn => (Below.heap_setCell w p u k (by omega)).trans (h.block k hk hn)⟩
theorem Keeps.of_below (h : Below w.heap.size w w') (b : Nat) : Keeps b w w' := ⟨h.os, h.tape, h.output, h.size, fun k hk _ => h.block k hk⟩
theorem Keeps.below (h : Keeps b w w') (hb : B ≤ b) (hw : B ≤ w.heap.size) : Below B w w' := ⟨h.os, h.tape, h.output, h.size, fun k hk => h.block k (by omega) (by omega)⟩
theorem Keeps.new (h : Keeps b w w') (hb : w.heap.size ≤ b) : Below w.heap.size w w' := h.below hb (Nat.le_refl _)
theorem Has.keeps {g : Nat} {cs : Array Value} {t : TypeId} (h : Has w g cs t) (hk : Keeps b w w') (hn : g ≠ b) : Has w' g cs t := (hk.block g h.lt hn).trans h
theorem Cells.keeps {A : Option Addr} {n : Nat} {f : Nat → Value} (h : Cells w B A n f) (hk : Keeps b w w') (hb : B ≤ b) : Cells w' B A n f := fun hn => by
  obtain ⟨ad, e, hlt, hc⟩ := h hn
  exact ⟨ad, e, hlt, fun j hj => by
    have h1 := hc j hj
    have h2 := cell_lt h1
    rw [add_block] at h2
    exact (World.cell?_of_block (w := w) (hk.block _ (by rw [add_block]; exact h2) (by rw [add_block]; omega))).trans h1⟩
end
end Go.Proofs.YtbeikfopneeodaaGreat
namespace Go.Proofs.YtbeikfopneeodaaGreat
open Go.RowKit

def pairAt (f g : Nat → Int) (j : Nat) : Value := if j % 2 = 0 then .int .i64 (f (j / 2)) else .int .i64 (g (j / 2))

/-- n structs of two numbers -/
def Pairs (w : World) (B : Nat) (A : Option Addr) (n : Nat) (f g : Nat → Int) : Prop := Cells w B A (n * 2) (pairAt f g)

theorem spot_none {w : World} {a : Addr} {v : Value} (h : w.cell? a = some v) : a = ⟨a.block, a.off, none⟩ := by
  obtain ⟨b, o, s⟩ := a
  cases s with
  | none => rfl
  | some s =>
    simp only [World.cell?] at h
    split at h <;> simp at h

theorem Cells.plain {w : World} {B n : Nat} {A : Option Addr} {f : Nat → Value} (h : Cells w B A n f) (hn : 0 < n) :
    ∃ b o, A = some ⟨b, o, none⟩ ∧ b < B ∧ ∀ j, j < n → w.cell? ⟨b, o + j, none⟩ = some (f j) := by
  obtain ⟨ad, e, hb, hc⟩ := h hn
  have h0 := hc 0 hn
  have e0 : ad.add 0 = ad := by simp [Addr.add]
  rw [e0] at h0
  have es := spot_none h0
  refine ⟨ad.block, ad.off, by rw [e, ← es], hb, fun j hj => ?_⟩
  have h1 := hc j hj
  rw [es, Go.WideShapes.add_plain] at h1
  exact h1

section
variable {w w' : World} {B B' n : Nat} {A : Option Addr} {f g : Nat → Int}
theorem Pairs.get {j : Nat} (h : Pairs w B A n f g) (hj : j < n) : ∃ b o, A = some ⟨b, o, none⟩ ∧ b < B ∧ w.cell? ⟨b, o + j * 2, none⟩ = some (.int .i64 (f j)) ∧ w.cell? ⟨b, o + j * 2 + 1, none⟩ = some (.int .i64 (g j)) := by
  obtain ⟨b, o, e, hb, hc⟩ := Cells.plain h (by omega)
  have h1 := hc (j * 2) (by omega)
  have h2 := hc (j * 2 + 1) (by omega)
  rw [pairAt, if_pos (by omega), show j * 2 / 2 = j by omega] at h1
  rw [pairAt, if_neg (by omega), show (j * 2 + 1) / 2 = j by omega] at h2
  exact ⟨b, o, e, hb, h1, h2⟩
theorem Pairs.below (h : Pairs w B A n f g) (hb : Below B w w') : Pairs w' B A n f g := Cells.below h hb
theorem Pairs.mono (h : Pairs w B A n f g) (hB : B ≤ B') : Pairs w B' A n f g := Cells.mono h hB
theorem Pairs.drewN (h : Pairs w B A n f g) (k : Nat) : Pairs (w.drewN k) B A n f g := h
theorem Pairs.alloc (h : Pairs w B A n f g) (hB : B ≤ w.heap.size) (o : Obj) : Pairs (w.alloc o) B A n f g := Cells.alloc h hB o
theorem Pairs.keeps {b : Nat} (h : Pairs w B A n f g) (hk : Keeps b w w') (hb : B ≤ b) : Pairs w' B A n f g := Cells.keeps h hk hb
theorem Pairs.zero : Pairs w B A 0 f g := Cells.zero
end
end Go.Proofs.YtbeikfopneeodaaGreat
namespace Go.Proofs.YtbeikfopneeodaaGreat
open Go.RowKit

/-- block g is n cells of type t, the j-th of them h j -/
def Row (w : World) (g n : Nat) (t : TypeId) (h : Nat → Value) : Prop := ∃ cur : Array Value, Has w g cur t ∧ cur.size = n ∧ ∀ j, j < n → cur[j]? = some (h j)

section
variable {w w' : World} {g n B : Nat} {t : TypeId} {h : Nat → Value}
theorem Row.lt (hr : Row w g n t h) : g < w.heap.size := by obtain ⟨_, hh, _⟩ := hr; exact hh.lt
theorem Row.cell (hr : Row w g n t h) (j : Nat) (hj : j < n) : w.cell? ⟨g, j, none⟩ = some (h j) := by obtain ⟨_, hh, _, hc⟩ := hr; rw [hh.cell]; exact hc j hj
theorem Row.free (hr : Row w g n t h) (j : Nat) : w.frozen? ⟨g, j, none⟩ = false := by obtain ⟨_, hh, _⟩ := hr; exact hh.free j
theorem Row.below (hr : Row w g n t h) (hb : Below B w w') (hg : g < B) : Row w' g n t h := by obtain ⟨c, hh, h1, h2⟩ := hr; exact ⟨c, hh.below hb hg, h1, h2⟩
theorem Row.keeps {b : Nat} (hr : Row w g n t h) (hk : Keeps b w w') (hn : g ≠ b) : Row w' g n t h := by obtain ⟨c, hh, h1, h2⟩ := hr; exact ⟨c, hh.keeps hk hn, h1, h2⟩
theorem Row.alloc (hr : Row w g n t h) (o : Obj) : Row (w.alloc o) g n t h := by obtain ⟨c, hh, h1, h2⟩ := hr; exact ⟨c, hh.alloc o, h1, h2⟩
theorem Row.drewN (hr : Row w g n t h) (k : Nat) : Row (w.drewN k) g n t h := hr
theorem Row.drew (hr : Row w g n t h) : Row w.drew g n t h := hr
theorem Row.put (hr : Row w g n t h) (j : Nat) (u : Value) : Row (w.setCell ⟨g, j, none⟩ u) g n t (fun i => if i = j then u else h i) := by
  obtain ⟨c, hh, h1, h2⟩ := hr
  refine ⟨_, hh.put j u, by simpa using h1, fun i hi => ?_⟩
  rw [Array.getElem?_setIfInBounds]
  by_cases e : j = i
  · subst e; simp; omega
  · rw [if_neg e]
    simp only [if_neg (Ne.symm e)]
    exact h2 i hi
theorem Row.far (hr : Row w g n t h) {p : Addr} (hp : g ≠ p.block) (u : Value) : Row (w.setCell p u) g n t h := by obtain ⟨c, hh, h1, h2⟩ := hr; exact ⟨c, hh.far hp u, h1, h2⟩
theorem Row.congr (hr : Row w g n t h) {h' : Nat → Value} (e : ∀ j, j < n → h j = h' j) : Row w g n t h' := by
  obtain ⟨c, hh, h1, h2⟩ := hr
  exact ⟨c, hh, h1, fun j hj => by rw [h2 j hj, e j hj]⟩
theorem Row.cells (hr : Row w g n t h) : Cells w w.heap.size (some ⟨g, 0, none⟩) n h := fun _ =>
  ⟨_, rfl, hr.lt, fun j hj => by rw [Go.WideShapes.add_plain, Nat.zero_add]; exact hr.cell j hj⟩

/-- a row that was just made whole -/
theorem Row.made {base size : Nat} {e : TypeId} {xs : List Value} (ho : w.ownsRow base e size (.slice (some ⟨g, 0, none⟩) n n) n xs) (hx : ∀ j, j < n * size → xs[j]? = some (h j)) : Row w g (n * size) e h := by
  rcases ho.2 with ⟨e1, _⟩ | ⟨g', cap, cur, e1, _, hg, _, _, hcs, htake⟩
  · cases e1
  · injection e1 with e1 _ e3
    injection e1 with e1
    injection e1 with e1
    subst e1 e3
    refine ⟨cur, hg, hcs, fun j hj => ?_⟩
    have := hx j hj
    rw [← htake, List.getElem?_take_of_lt hj] at this
    rw [← this, Array.getElem?_toList]

/-- the same, whatever it holds -/
theorem Row.some_made {base : Nat} {e : TypeId} {xs : List Value} (ho : w.ownsRow base e 1 (.slice (some ⟨g, 0, none⟩) n n) n xs) : ∃ h : Nat → Value, Row w g n e h := by
  have hl := ho.1
  refine ⟨fun j => xs.getD j undef, ?_⟩
  have := Row.made (h := fun j => xs.getD j undef) ho fun j hj => by
    rw [List.getElem?_eq_getElem (by omega)]
    simp [List.getD, List.getElem?_eq_getElem (show j < xs.length by omega)]
  rwa [Nat.mul_one] at this
end
end Go.Proofs.YtbeikfopneeodaaGreat
namespace Go.Proofs.YtbeikfopneeodaaGreat
open Go.RowKit

/-- a slice of n numbers -/
def Nums (w : World) (B : Nat) (A : Option Addr) (n : Nat) (f : Nat → Int) : Prop := Cells w B A n fun j => .int .i64 (f j)

section
variable {w w' : World} {B B' n : Nat} {A : Option Addr} {f g : Nat → Int}
theorem Nums.get {j : Nat} (h : Nums w B A n f) (hj : j < n) : ∃ b o, A = some ⟨b, o, none⟩ ∧ b < B ∧ w.cell? ⟨b, o + j, none⟩ = some (.int .i64 (f j)) := by
  obtain ⟨b, o, e, hb, hc⟩ := Cells.plain h (by omega)
  exact ⟨b, o, e, hb, hc j hj⟩
theorem Nums.below (h : Nums w B A n f) (hb : Below B w w') : Nums w' B A n f := Cells.below h hb
theorem Nums.mono (h : Nums w B A n f) (hB : B ≤ B') : Nums w B' A n f := Cells.mono h hB
theorem Nums.drewN (h : Nums w B A n f) (k : Nat) : Nums (w.drewN k) B A n f := h
theorem Nums.alloc (h : Nums w B A n f) (hB : B ≤ w.heap.size) (o : Obj) : Nums (w.alloc o) B A n f := Cells.alloc h hB o
theorem Nums.zero : Nums w B A 0 f := Cells.zero
theorem Nums.congr (h : Nums w B A n f) (e : ∀ j, j < n → f j = g j) : Nums w B A n g := Cells.congr h fun j hj => by rw [e j hj]
end

set_option maxHeartbeats 1000000 in
theorem same_yes (A A2 : Option Addr) (n c c2 : Nat) (f : Nat → Int) (B B2 : Nat) (w : World) (hn : n ≤ 9223372036854775807) (h1 : Nums w B A n f) (h2 : Nums w B2 A2 n f) :
    Calls Tryz.prog 8 #[.slice A n c, .slice A2 n c2] w fun e w' => e = .returned (.bool true) ∧ ∃ m, w' = w.drewN m := by
  have H1 := Lib.hid h1
  have H2 := Lib.hid h2
  clear h1 h2
  go_enter Tryz.func8, Tryz.ntmps8
  go_wp2
  go_loopw [5] (fun i wr => ∃ k : Nat, k ≤ n ∧ i = .int .i64 k ∧ ∃ m, wr = w.drewN m) (fun i _ => n - (intOf i).toNat)
  case atStart => exact ⟨0, Nat.zero_le _, rfl, 0, rfl⟩
  case round =>
    obtain ⟨k, hk, rfl, m, rfl⟩ := hrel
    by_cases hlt : k < n
    · obtain ⟨b, o, rfl, _, hc⟩ := H1.out.get hlt
      obtain ⟨b', o', rfl, _, hc'⟩ := H2.out.get hlt
      obtain ⟨x, hx⟩ : ∃ x, f k = x := ⟨_, rfl⟩
      rw [hx] at hc hc'
      have hk0 : (0 : Int) ≤ k := by omega
      have hk1 : (k : Int) < n := by omega
      clear hx
      go_wp2
      go_quiet (fail)
      go_wp2
      go_roundw
      case rel => exact ⟨k + 1, by omega, by go_num, _, by first | rfl | exact World.drewN_drewN _ _ _⟩
      case measure => simp [intOf]; omega
    · go_wp2
      go_ret
      exact ⟨rfl, m, rfl⟩
end Go.Proofs.YtbeikfopneeodaaGreat
