/- Words for memory of this family of proofs: the cells of a slice as a function, what leaves them alone, and an append from such a slice. No program in sight. -/
import Derived.Below
import Derived.Laws.OwnMore
import Derived.Deep.AppendLies
import Derived.Deep.Draws
import Derived.Maps.AppendAt
import Derived.Laws.AppendOwnNone
import Derived.OwnWalk
import Derived.Deep.QuietTactic
import Derived.BigQuiet
namespace Go.Proofs.Ytlmgfcgakdanaaa
open Go.RowKit

/-- the k-th number of a list -/
def nth (zs : List Int) (k : Nat) : Int := zs.getD k 0

theorem nth_eq (zs : List Int) (k : Nat) (h : k < zs.length) : nth zs k = zs[k] := by
  simp [nth, h]

theorem take_nth (zs : List Int) (k : Nat) (h : k < zs.length) : zs.take (k + 1) = zs.take k ++ [nth zs k] := by
  rw [List.take_succ_eq_append_getElem h, nth_eq zs k h]

theorem nth_mem (zs : List Int) (k : Nat) (h : k < zs.length) : nth zs k ∈ zs := by
  rw [nth_eq zs k h]; exact List.getElem_mem h

/-- the first n cells of a slice that lies below block B -/
def Cells (w : World) (B : Nat) (A : Option Addr) (n : Nat) (f : Nat → Value) : Prop :=
  0 < n → ∃ ad, A = some ad ∧ ad.block < B ∧ ∀ j, j < n → w.cell? (ad.add j) = some (f j)

section
variable {w w' : World} {B B' n : Nat} {A : Option Addr} {f : Nat → Value}

theorem add_block (a : Addr) (j : Nat) : (a.add j).block = a.block := by
  unfold Addr.add; split <;> rfl

theorem Cells.get {j : Nat} (h : Cells w B A n f) (hj : j < n) : ∃ ad, A = some ad ∧ ad.block < B ∧ w.cell? (ad.add j) = some (f j) := by
  obtain ⟨ad, e, hb, hc⟩ := h (by omega)
  exact ⟨ad, e, hb, hc j hj⟩

theorem Cells.zero : Cells w B A 0 f := fun h => absurd h (by omega)

theorem Cells.keep (h : Cells w B A n f) (hk : ∀ p : Addr, p.block < B → w'.cell? p = w.cell? p) : Cells w' B A n f := fun hn => by
  obtain ⟨ad, e, hb, hc⟩ := h hn
  exact ⟨ad, e, hb, fun j hj => (hk _ (by rw [add_block]; exact hb)).trans (hc j hj)⟩

theorem Cells.mono (h : Cells w B A n f) (hB : B ≤ B') : Cells w B' A n f := fun hn => by
  obtain ⟨ad, e, hb, hc⟩ := h hn
  exact ⟨ad, e, by omega, hc⟩

theorem Cells.below (h : Cells w B A n f) (hb : Below B w w') : Cells w' B A n f := h.keep fun _ hp => hb.cell hp
theorem Cells.drewN (h : Cells w B A n f) (k : Nat) : Cells (w.drewN k) B A n f := h
theorem Cells.alloc (h : Cells w B A n f) (hB : B ≤ w.heap.size) (o : Obj) : Cells (w.alloc o) B A n f :=
  h.keep fun p hp => World.cell?_alloc_lt w o p (by omega)
theorem Cells.setCell (h : Cells w B A n f) {p : Addr} (hB : B ≤ p.block) (u : Value) : Cells (w.setCell p u) B A n f :=
  h.keep fun q hq => World.cell?_setCell_other w p q u (fun e => by subst e; omega)
theorem Cells.congr (h : Cells w B A n f) {g : Nat → Value} (hg : ∀ j, j < n → f j = g j) : Cells w B A n g := fun hn => by
  obtain ⟨ad, e, hb, hc⟩ := h hn
  exact ⟨ad, e, hb, fun j hj => by rw [← hg j hj]; exact hc j hj⟩
end

/-- a slice of ints that reads as a list -/
def Ints (w : World) (B : Nat) (A : Option Addr) (zs : List Int) : Prop := Cells w B A zs.length fun j => .int .i64 (nth zs j)

/-- a row that the call owns, as cells -/
theorem Cells.of_own {w : World} {base : Nat} {e : TypeId} {size n : Nat} {A : Option Addr} {c : Nat} {xs : List Value} (h : w.ownsRow base e size (.slice A n c) n xs) (g : Nat → Value)
    (hg : ∀ j (hj : j < xs.length), xs[j] = g j) : Cells w w.heap.size A (n * size) g := fun hn => by
  have hn0 : 0 < n := Nat.pos_of_ne_zero fun e => by subst e; simp at hn
  obtain ⟨b, cap, hv, _, hlt⟩ := h.form hn0
  have hA : A = some ⟨b, 0, none⟩ := by injection hv
  subst hA
  refine ⟨_, rfl, hlt, fun j hj => ?_⟩
  have hl : j < xs.length := by rw [h.1]; exact hj
  exact h.cells (g := b) rfl j _ (by rw [List.getElem?_eq_getElem hl, hg j hl])

theorem cell_lt {w : World} {a : Addr} {v : Value} (h : w.cell? a = some v) : a.block < w.heap.size := by
  rcases Nat.lt_or_ge a.block w.heap.size with hlt | hge
  · exact hlt
  · simp [World.cell?, Array.getElem?_eq_none hge] at h

/-- an empty slice of the call's own -/
theorem own_empty (w : World) (e : TypeId) (size : Nat) : (w.alloc (.cells #[] e)).ownsRow w.heap.size e size (.slice (some ⟨w.heap.size, 0, none⟩) 0 0) 0 [] :=
  ⟨by simp, .inr ⟨w.heap.size, 0, #[], rfl, Nat.le_refl _, heap_alloc_new w _, Nat.le_refl _, Nat.zero_le _, by simp, by simp⟩⟩

/-- a row of the call's own that has a block -/
theorem own_form {w : World} {base : Nat} {e : TypeId} {size n g0 : Nat} {v : Value} {xs : List Value} (h : w.ownsRow base e size v n xs) (hat : v.ownBlock = some g0) :
    ∃ cap, v = .slice (some ⟨g0, 0, none⟩) n cap ∧ base ≤ g0 := by
  rcases h.2 with ⟨rfl, _⟩ | ⟨g, cap, cur, rfl, hb, _⟩
  · simp [Value.ownBlock] at hat
  · simp only [Value.ownBlock, Option.some.injEq] at hat
    subst hat
    exact ⟨cap, rfl, hb⟩

theorem range_map_nth (ys : List Int) (n : Nat) (h : ys.length = n) : (List.range n).map (fun j => Value.int .i64 (nth ys j)) = ys.map (Value.int .i64) := by
  subst h
  apply List.ext_getElem
  · simp
  · intro i h1 h2
    simp only [List.length_map, List.length_range] at h1
    simp [nth_eq ys i h1]

theorem below_drewN {B : Nat} {a w : World} (h : Below B a w) (n : Nat) : Below B a (w.drewN n) := ⟨h.os, h.tape, h.output, h.size, h.block⟩

section
variable {P : Program} (w : World)

/-- append of the first m elements of a slice that came in, to a row of the call's own -/
theorem run_append_cells (base : Nat) (t ty e : TypeId) (i : TypeInfo) (z : Value) (size bytes : Nat) (ht : P.underlying t = some (.slice e)) (hi : P.info? e = some i) (hz : i.zero = some z)
    (hsize : i.size = size) (hby : i.bytes = bytes) (hzs : z.cells.size = size) (hsz : 0 < size)
    (v : Value) (n : Nat) (xs : List Value) (hown : w.ownsRow base e size v n xs)
    (B : Nat) (A : Option Addr) (m c : Nat) (f : Nat → Value) (hc : Cells w B A (m * size) f) (hnil : A = none → m = 0 ∧ c = 0) (h1 : ∀ j, j < m * size → (f j).oneCell' = true)
    (h63 : n + m ≤ maxLen) (hbytes : (n + m) * bytes ≤ 140737488355328) (hbase : base ≤ w.heap.size) :
    ∃ v' w', (Builtin.append_ #[t, t] ty #[v, .slice A m c]).run P w = .ok v' w' ∧ w'.ownsRow base e size v' (n + m) (xs ++ (List.range (m * size)).map f) ∧ w.grownBy w' v.ownBlock ∧
      (v'.ownBlock = v.ownBlock ∨ v'.ownBlock = some w.heap.size) := by
  cases A with
  | none =>
    obtain ⟨rfl, rfl⟩ := hnil rfl
    exact ⟨v, w, run_append_owned_none (P := P) (w := w) base t ty e i size ht hi v n xs hown, by simpa using hown, World.grownBy.refl w _, .inl rfl⟩
  | some ad =>
    have hcell : ∀ j u, ((List.range (m * size)).map f)[j]? = some u → w.cell? (ad.add j) = some u := by
      intro j u hu
      rw [List.getElem?_map] at hu
      by_cases hj : j < m * size
      · obtain ⟨ad', e', _, hcc⟩ := hc.get hj
        injection e' with e'
        subst e'
        rw [List.getElem?_range hj] at hu
        simp only [Option.map_some, Option.some.injEq] at hu
        rw [hcc, hu]
      · rw [List.getElem?_eq_none (by simp; omega)] at hu
        simp at hu
    obtain ⟨v', w', hrun, h2, h3, _, h5⟩ := run_append_own_at (P := P) w base t ty e i z size bytes ht hi hz hsize hby hzs hsz v n xs hown ad m c ((List.range (m * size)).map f) (by simp) hcell
      (fun u hu => by obtain ⟨j, hj, rfl⟩ := List.mem_map.1 hu; exact h1 j (List.mem_range.1 hj)) h63 hbytes hbase
    exact ⟨v', w', hrun, h2, h3, h5⟩

theorem wpList_append_cells {ops : Array Oper} {rest : List Oper} {o : Oper} {a : Act} {Q : Exit → Act → World → Prop} (hgd : o.guard = none) (s x : Operand) (t : TypeId)
    (ho : o.op = .call { callee := .builtin .append, args := #[s, x], argTypes := #[t, t] })
    (base : Nat) (e : TypeId) (i : TypeInfo) (z : Value) (size bytes : Nat) (ht : P.underlying t = some (.slice e)) (hi : P.info? e = some i) (hz : i.zero = some z)
    (hsize : i.size = size) (hby : i.bytes = bytes) (hzs : z.cells.size = size) (hsz : 0 < size)
    (v : Value) (n : Nat) (xs : List Value) (hs : a.eval s = v) (hown : w.ownsRow base e size v n xs)
    (B : Nat) (A : Option Addr) (m c : Nat) (f : Nat → Value) (hx : a.eval x = .slice A m c) (hc : Cells w B A (m * size) f) (hnil : A = none → m = 0 ∧ c = 0) (h1 : ∀ j, j < m * size → (f j).oneCell' = true)
    (h63 : n + m ≤ maxLen) (hbytes : (n + m) * bytes ≤ 140737488355328) (hbase : base ≤ w.heap.size)
    (h : ∀ v' w', w'.ownsRow base e size v' (n + m) (xs ++ (List.range (m * size)).map f) → w.grownBy w' v.ownBlock → (v'.ownBlock = v.ownBlock ∨ v'.ownBlock = some w.heap.size) → wpList P ops Q rest (a.put o.dst v') w') :
    wpList P ops Q (o :: rest) a w := by
  obtain ⟨v', w', hrun, h2, h3, h4⟩ := run_append_cells (P := P) w base t o.type e i z size bytes ht hi hz hsize hby hzs hsz v n xs hown B A m c f hc hnil h1 h63 hbytes hbase
  refine wpList_plain hgd fun K hK => ?_
  unfold Oper.wp execOp
  simp only [ho, resolve, invoke, builtin, Sem.run_bind, Sem.run_pure, Result.andThen_ok, List.map_toArray, List.map_cons, List.map_nil, hs, hx, hrun]
  exact hK _ _ (h v' w' h2 h3 h4)
end

/-- contracts of quiet callees, in the form that a quiet region asks for -/
theorem quiet_left {P : Program} {f : FuncId} {args : Array Value} {w : World} {n : Nat} {v : Value}
    (h : Calls P f args (w.drewN n) fun e w' => e = .returned v ∧ w.drewN n = w') : Calls P f args (w.drewN n) fun e w'' => e = .returned v ∧ ∃ m, w'' = w.drewN m :=
  h.mono fun _ _ ⟨he, hm⟩ => ⟨he, n, hm.symm⟩
theorem quiet_more {P : Program} {f : FuncId} {args : Array Value} {w : World} {a n : Nat} {v : Value}
    (h : Calls P f args (w.drewN (a + n)) fun e w' => e = .returned v ∧ ∃ m, w' = (w.drewN (a + n)).drewN m) :
    Calls P f args (w.drewN (a + n)) fun e w'' => e = .returned v ∧ ∃ m, w'' = w.drewN (a + m) :=
  h.mono fun _ _ ⟨he, m, hm⟩ => ⟨he, n + m, by rw [hm, World.drewN_drewN, Nat.add_assoc]⟩
end Go.Proofs.Ytlmgfcgakdanaaa
