/- A wording that came in, as a value. Law 09: made. Law 09: two calls of InForce that return the same. Law 09, EndorseOutside: the list of endorsements with one more. -/
import Derived.Test.YtlbkhhbbkedhkaaGreatDoorMa30
import Derived.Test.YtlbkhhbbkedhkaaGreatDoorMa10
import Derived.Test.YtlbkhhbbkedhkaaGreatDoorMc02
import Derived.Test.YtlbkhhbbkedhkaaGreatDoorMa17
import Derived.Test.YtlbkhhbbkedhkaaGreatDoorMc01
namespace Go.Proofs.YtlbkhhbbkedhkaaGreatDoor
open Go.ChangeShapes Go.WideShapes Go.ChangeAt Go.Deep Go.RowKit
set_option linter.unusedVariables false

section
variable {H : Type} {enc : TypeId × Value → H} {w : World} {fuel : Nat} {cs : List Value} {x : DataW H × List MemPlace}
/-- a slice that came in, element by element -/
theorem slice_came {t e : TypeId} {s : Nat} (ht : Tryz.prog.underlying t = some (.slice e)) (hC : Tryz.prog.cellsOf e = s) (h : DataW.trod enc Tryz.prog w 0 (fun _ => true) true fuel t cs = some x) :
    ∃ (A : Option Addr) (len cap : Nat), cs = [.slice A len cap] ∧ len ≤ cap ∧ cap ≤ maxLen ∧
      ∀ i, i < len → ∃ (a : Addr) (cs' : List Value) (n : Nat), A = some a ∧ (∀ j, j < s → w.cell? (a.add (i * s + j)) = cs'[j]?) ∧ cs'.length = s ∧ n < fuel ∧ ∃ y, DataW.trod enc Tryz.prog w 0 (fun _ => true) true n e cs' = some y := by
  rcases DataW.trod_slice ht h with ⟨h0, _⟩ | ⟨a, len, cap, elems, rest, n, hn, hcs, _, _, hl, hm, hlen, hel, _, _⟩
  · exact ⟨none, 0, 0, h0, Nat.le_refl _, Nat.zero_le _, fun i hi => by omega⟩
  · refine ⟨some a, len, cap, hcs, hl, hm, fun i hi => ?_⟩
    have h1 := hel i hi
    rw [List.getElem?_eq_getElem (by omega), Option.bind_eq_some_iff] at h1
    obtain ⟨cs', hc, ht'⟩ := h1
    rw [hC] at hc
    obtain ⟨_, hcl, hat⟩ := World.cells?_some hc
    exact ⟨a, cs', n, rfl, fun j hj => by rw [← Go.Deep.add_add]; exact hat j hj, hcl, by omega, _, ht'⟩
theorem came_cells {α : Type} {s len : Nat} {A : Option Addr} (cf : α → Nat → Value) (d : α) (Q : α → Prop) (hs : 0 < s)
    (h : ∀ i, i < len → ∃ (a : Addr) (cs' : List Value) (z : α), A = some a ∧ (∀ j, j < s → w.cell? (a.add (i * s + j)) = cs'[j]?) ∧ (∀ j, j < s → cs'[j]? = some (cf z j)) ∧ Q z) :
    ∃ zs : Nat → α, Cells w w.heap.size A (len * s) (fun j => cf (zs (j / s)) (j % s)) ∧ ∀ i, i < len → Q (zs i) := by
  have h' : ∀ i, ∃ z, i < len → (∃ a : Addr, A = some a ∧ ∀ j, j < s → w.cell? (a.add (i * s + j)) = some (cf z j)) ∧ Q z := fun i => by
    by_cases hi : i < len
    · obtain ⟨a, cs', z, h1, h2, h3, h4⟩ := h i hi
      exact ⟨z, fun _ => ⟨⟨a, h1, fun j hj => by rw [h2 j hj, h3 j hj]⟩, h4⟩⟩
    · exact ⟨d, fun c => absurd c hi⟩
  obtain ⟨zs, hz⟩ := Classical.skolem.1 h'
  refine ⟨zs, fun hn => ?_, fun i hi => (hz i hi).2⟩
  have hl : 0 < len := Nat.pos_of_ne_zero fun c => by subst c; simp at hn
  obtain ⟨a, ha, hc⟩ := (hz 0 hl).1
  have h0 := hc 0 hs
  refine ⟨a, ha, ?_, fun j hj => ?_⟩
  · have := cell_lt h0
    rwa [add_block] at this
  · obtain ⟨a', ha', hc'⟩ := (hz (j / s) (Nat.div_lt_of_lt_mul (by rw [Nat.mul_comm]; exact hj))).1
    rw [ha] at ha'
    injection ha' with ha'
    subst ha'
    have := hc' (j % s) (Nat.mod_lt _ hs)
    rwa [Nat.mul_comm, Nat.div_add_mod] at this
theorem one_cell {v u : Value} (h : [v] = [u]) : v = u := by injection h
theorem came_strs {v : Value} (h : Rd40 w [v]) : ∃ (A : Option Addr) (n c : Nat) (f : Nat → ByteArray), v = .slice A n c ∧ (n ≤ big ∧ n ≤ c) ∧ Strs w w.heap.size A n f := by
  rcases h with h | ⟨a, len, cap, h, h1, h2, h3⟩
  · injection h with h
    exact ⟨none, 0, 0, fun _ => ByteArray.empty, h, ⟨Nat.zero_le _, Nat.le_refl _⟩, Cells.zero⟩
  · injection h with h
    obtain ⟨zs, hz, _⟩ := came_cells (w := w) (A := some a) (len := len) (s := 1) (fun (z : ByteArray) _ => Value.string z) ByteArray.empty (fun _ => True) (by omega) (fun i hi => by
      obtain ⟨cs', hl, hcc, z, hz, _⟩ := h3 i (by omega)
      exact ⟨a, cs', z, rfl, hcc, fun j hj => by
        obtain rfl : j = 0 := by omega
        rw [hz]; rfl, trivial⟩)
    rw [Nat.mul_one] at hz
    exact ⟨some a, len, cap, zs, h, ⟨by unfold maxLen at h2; unfold big; omega, h1⟩, hz.congr fun j hj => by rw [Nat.div_one]⟩

set_option maxRecDepth 100000 in
theorem came_ex : ∀ (fuel : Nat) (cs : List Value) (x : DataW H × List MemPlace), DataW.trod enc Tryz.prog w 0 (fun _ => true) true fuel 43 cs = some x → ∃ (e : Ex) (a : EA), cs = (e.cells a).toList ∧ ExAt w w.heap.size e a := by
  intro fuel
  induction fuel using Nat.strongRecOn with
  | _ fuel ih =>
    intro cs x h
    obtain ⟨xs, n, hfu, _, hlen, hxl, hf⟩ := DataW.trod_struct Tryz.underlying43 h
    rw [show Tryz.prog.cellsOf 43 = 6 by kernel_rfl] at hlen
    match cs, hlen with
    | [v0, v1, v2, v3, v4, v5], _ =>
      obtain ⟨_, f0⟩ := fld (hf 0 _ rfl) (T := 3) (off := 0) (c := 1) rfl rfl (by kernel_rfl) (by rw [hxl]; decide)
      obtain ⟨_, f1⟩ := fld (hf 1 _ rfl) (T := 9) (off := 1) (c := 1) rfl rfl (by kernel_rfl) (by rw [hxl]; decide)
      obtain ⟨_, f2⟩ := fld (hf 2 _ rfl) (T := 40) (off := 2) (c := 1) rfl rfl (by kernel_rfl) (by rw [hxl]; decide)
      obtain ⟨_, f3⟩ := fld (hf 3 _ rfl) (T := 3) (off := 3) (c := 1) rfl rfl (by kernel_rfl) (by rw [hxl]; decide)
      obtain ⟨_, f4⟩ := fld (hf 4 _ rfl) (T := 3) (off := 4) (c := 1) rfl rfl (by kernel_rfl) (by rw [hxl]; decide)
      obtain ⟨_, f5⟩ := fld (hf 5 _ rfl) (T := 41) (off := 5) (c := 1) rfl rfl (by kernel_rfl) (by rw [hxl]; decide)
      have g2 := rd40 f2
      obtain ⟨op, e0, _⟩ := rd3 f0
      obtain ⟨nm, e1, _⟩ := rd9 f1
      obtain ⟨lo, e3, _⟩ := rd3 f3
      obtain ⟨hi, e4, _⟩ := rd3 f4
      obtain ⟨Aw, nw, cw, ws, e2, h2, hws⟩ := came_strs g2
      obtain ⟨Aa, na, ca, e5, h5, h6, hel⟩ := slice_came (s := 6) Tryz.underlying41 (by kernel_rfl) f5
      obtain ⟨zs, hz1, hz2⟩ := came_cells (w := w) (A := Aa) (len := na) (s := 6) (fun (z : Ex × EA) j => z.1.cell z.2 j) (.bot, ⟨none, 0, none, 0⟩) (fun z => ExAt w w.heap.size z.1 z.2) (by omega) (fun i hi' => by
        obtain ⟨a, cs', n', hA, hc, hl, hn', y, hy⟩ := hel i hi'
        obtain ⟨e, b, he, hat⟩ := ih n' (by omega) cs' y hy
        exact ⟨a, cs', (e, b), hA, hc, fun j hj => by rw [he]; exact Ex.cells_get e b j hj, hat⟩)
      have q0 : v0 = .int .i64 op := one_cell e0
      have q1 : v1 = .string nm := one_cell e1
      have q3 : v3 = .int .i64 lo := one_cell e3
      have q4 : v4 = .int .i64 hi := one_cell e4
      have q5 : v5 = .slice Aa na ca := one_cell e5
      subst q0 q1 e2 q3 q4 q5
      exact ⟨.mk op nm nw ws lo hi na fun i => (zs i).1, ⟨Aw, cw, Aa, ca⟩, rfl, h2, ⟨by unfold maxLen at h6; unfold big; omega, h5⟩, hws, fun i => (zs i).2, hz1, hz2⟩

/-- the conditions of a struct within a struct -/
theorem ex_six {v0 v1 v2 v3 v4 v5 : Value} {e : Ex} {a : EA} (h : [v0, v1, v2, v3, v4, v5] = (e.cells a).toList) (j : Nat) (hj : j < 6) : [v0, v1, v2, v3, v4, v5][j]? = some (e.cell a j) := by rw [h]; exact Ex.cells_get e a j hj
set_option maxRecDepth 100000 in
theorem came_wb : ∀ (fuel : Nat) (cs : List Value) (x : DataW H × List MemPlace), DataW.trod enc Tryz.prog w 0 (fun _ => true) true fuel 97 cs = some x → ∃ (e : Wb) (a : WA), (∀ j, j < 8 → cs[j]? = some (e.cell a j)) ∧ WbAt w w.heap.size e a := by
  intro fuel
  induction fuel using Nat.strongRecOn with
  | _ fuel ih =>
    intro cs x h
    obtain ⟨xs, n, hfu, _, hlen, hxl, hf⟩ := DataW.trod_struct Tryz.underlying97 h
    rw [show Tryz.prog.cellsOf 97 = 8 by kernel_rfl] at hlen
    match cs, hlen with
    | [v0, v1, v2, v3, v4, v5, v6, v7], _ =>
      obtain ⟨_, f0⟩ := fld (hf 0 _ rfl) (T := 9) (off := 0) (c := 1) rfl rfl (by kernel_rfl) (by rw [hxl]; decide)
      obtain ⟨_, f1⟩ := fld (hf 1 _ rfl) (T := 43) (off := 1) (c := 6) rfl rfl (by kernel_rfl) (by rw [hxl]; decide)
      obtain ⟨_, f2⟩ := fld (hf 2 _ rfl) (T := 44) (off := 7) (c := 1) rfl rfl (by kernel_rfl) (by rw [hxl]; decide)
      obtain ⟨nm, e0, _⟩ := rd9 f0
      obtain ⟨ex, ea, e1, hx⟩ := came_ex _ _ _ f1
      obtain ⟨A, k, c, e2, h5, h6, hel⟩ := slice_came (s := 8) Tryz.underlying44 (by kernel_rfl) f2
      obtain ⟨zs, hz1, hz2⟩ := came_cells (w := w) (A := A) (len := k) (s := 8) (fun (z : Wb × WA) j => z.1.cell z.2 j) (.bot, ⟨⟨none, 0, none, 0⟩, none, 0⟩) (fun z => WbAt w w.heap.size z.1 z.2) (by omega) (fun i hi' => by
        obtain ⟨a, cs', n', hA, hc, hl, hn', y, hy⟩ := hel i hi'
        obtain ⟨e, b, he, hat⟩ := ih n' (by omega) cs' y hy
        exact ⟨a, cs', (e, b), hA, hc, he, hat⟩)
      have q0 : v0 = .string nm := one_cell e0
      have q2 : v7 = .slice A k c := one_cell e2
      have e1 : [v1, v2, v3, v4, v5, v6] = (ex.cells ea).toList := e1
      subst q0 q2
      refine ⟨.mk nm ex k fun i => (zs i).1, ⟨ea, A, c⟩, fun j hj => ?_, by unfold maxLen at h6; unfold big; omega, hx, fun i => (zs i).2, hz1, hz2⟩
      match j, hj with
      | 0, _ => rfl
      | 1, _ => exact ex_six e1 0 (by omega)
      | 2, _ => exact ex_six e1 1 (by omega)
      | 3, _ => exact ex_six e1 2 (by omega)
      | 4, _ => exact ex_six e1 3 (by omega)
      | 5, _ => exact ex_six e1 4 (by omega)
      | 6, _ => exact ex_six e1 5 (by omega)
      | 7, _ => rfl
set_option maxRecDepth 100000 in
theorem came_cl (fuel : Nat) (cs : List Value) (x : DataW H × List MemPlace) (h : DataW.trod enc Tryz.prog w 0 (fun _ => true) true fuel 46 cs = some x) : ∃ (e : Cl) (a : WA), (∀ j, j < 10 → cs[j]? = some (e.cell a j)) ∧ ClAt w w.heap.size e a := by
  obtain ⟨xs, n, hfu, _, hlen, hxl, hf⟩ := DataW.trod_struct Tryz.underlying46 h
  rw [show Tryz.prog.cellsOf 46 = 10 by kernel_rfl] at hlen
  match cs, hlen with
  | [v0, v1, v2, v3, v4, v5, v6, v7, v8, v9], _ =>
    obtain ⟨_, f0⟩ := fld (hf 0 _ rfl) (T := 3) (off := 0) (c := 1) rfl rfl (by kernel_rfl) (by rw [hxl]; decide)
    obtain ⟨_, f1⟩ := fld (hf 1 _ rfl) (T := 9) (off := 1) (c := 1) rfl rfl (by kernel_rfl) (by rw [hxl]; decide)
    obtain ⟨_, f2⟩ := fld (hf 2 _ rfl) (T := 43) (off := 2) (c := 6) rfl rfl (by kernel_rfl) (by rw [hxl]; decide)
    obtain ⟨_, f3⟩ := fld (hf 3 _ rfl) (T := 44) (off := 8) (c := 1) rfl rfl (by kernel_rfl) (by rw [hxl]; decide)
    obtain ⟨_, f4⟩ := fld (hf 4 _ rfl) (T := 3) (off := 9) (c := 1) rfl rfl (by kernel_rfl) (by rw [hxl]; decide)
    obtain ⟨kd, e0, _⟩ := rd3 f0
    obtain ⟨nm, e1, _⟩ := rd9 f1
    obtain ⟨am, e4, _⟩ := rd3 f4
    obtain ⟨ex, ea, e2, hx⟩ := came_ex _ _ _ f2
    obtain ⟨A, k, c, e3, h5, h6, hel⟩ := slice_came (s := 8) Tryz.underlying44 (by kernel_rfl) f3
    obtain ⟨zs, hz1, hz2⟩ := came_cells (w := w) (A := A) (len := k) (s := 8) (fun (z : Wb × WA) j => z.1.cell z.2 j) (.bot, ⟨⟨none, 0, none, 0⟩, none, 0⟩) (fun z => WbAt w w.heap.size z.1 z.2) (by omega) (fun i hi' => by
      obtain ⟨a, cs', n', hA, hc, hl, hn', y, hy⟩ := hel i hi'
      obtain ⟨e, b, he, hat⟩ := came_wb n' cs' y hy
      exact ⟨a, cs', (e, b), hA, hc, he, hat⟩)
    have q0 : v0 = .int .i64 kd := one_cell e0
    have q1 : v1 = .string nm := one_cell e1
    have q3 : v8 = .slice A k c := one_cell e3
    have q4 : v9 = .int .i64 am := one_cell e4
    have e2 : [v2, v3, v4, v5, v6, v7] = (ex.cells ea).toList := e2
    subst q0 q1 q3 q4
    refine ⟨⟨kd, nm, ex, k, fun i => (zs i).1, am⟩, ⟨ea, A, c⟩, fun j hj => ?_, hx, by show k ≤ big; unfold maxLen at h6; unfold big; omega, fun i => (zs i).2, hz1, hz2⟩
    match j, hj with
    | 0, _ => rfl
    | 1, _ => rfl
    | 2, _ => exact ex_six e2 0 (by omega)
    | 3, _ => exact ex_six e2 1 (by omega)
    | 4, _ => exact ex_six e2 2 (by omega)
    | 5, _ => exact ex_six e2 3 (by omega)
    | 6, _ => exact ex_six e2 4 (by omega)
    | 7, _ => exact ex_six e2 5 (by omega)
    | 8, _ => rfl
    | 9, _ => rfl
theorem came_cls {v : Value} (h : DataW.trod enc Tryz.prog w 0 (fun _ => true) true fuel 22 [v] = some x) : ∃ (A : Option Addr) (n c : Nat) (zs : Nat → Cl), v = .slice A n c ∧ ClsAt w w.heap.size A n zs := by
  obtain ⟨A, k, c, e, h5, h6, hel⟩ := slice_came (s := 10) Tryz.underlying22 (by kernel_rfl) h
  obtain ⟨zs, hz1, hz2⟩ := came_cells (w := w) (A := A) (len := k) (s := 10) (fun (z : Cl × WA) j => z.1.cell z.2 j) (⟨0, ByteArray.empty, .bot, 0, fun _ => .bot, 0⟩, ⟨⟨none, 0, none, 0⟩, none, 0⟩) (fun z => ClAt w w.heap.size z.1 z.2) (by omega) (fun i hi' => by
    obtain ⟨a, cs', n', hA, hc, hl, hn', y, hy⟩ := hel i hi'
    obtain ⟨e, b, he, hat⟩ := came_cl n' cs' y hy
    exact ⟨a, cs', (e, b), hA, hc, he, hat⟩)
  injection e with e
  exact ⟨A, k, c, fun i => (zs i).1, e, by unfold maxLen at h6; unfold big; omega, fun i => (zs i).2, hz1, hz2⟩
set_option maxRecDepth 100000 in
theorem came_en (fuel : Nat) (cs : List Value) (x : DataW H × List MemPlace) (h : DataW.trod enc Tryz.prog w 0 (fun _ => true) true fuel 49 cs = some x) : ∃ (e : En) (a : NA), (∀ j, j < 4 → cs[j]? = some (e.cell a j)) ∧ EnAt w w.heap.size e a := by
  obtain ⟨xs, n, hfu, _, hlen, hxl, hf⟩ := DataW.trod_struct Tryz.underlying49 h
  rw [show Tryz.prog.cellsOf 49 = 4 by kernel_rfl] at hlen
  match cs, hlen with
  | [v0, v1, v2, v3], _ =>
    obtain ⟨_, f0⟩ := fld (hf 0 _ rfl) (T := 38) (off := 0) (c := 2) rfl rfl (by kernel_rfl) (by rw [hxl]; decide)
    obtain ⟨_, f1⟩ := fld (hf 1 _ rfl) (T := 40) (off := 2) (c := 1) rfl rfl (by kernel_rfl) (by rw [hxl]; decide)
    obtain ⟨_, f2⟩ := fld (hf 2 _ rfl) (T := 22) (off := 3) (c := 1) rfl rfl (by kernel_rfl) (by rw [hxl]; decide)
    obtain ⟨u0, u1, eu, ⟨pf, e0, _⟩, ⟨pt, e1, _⟩⟩ := rd38 f0
    have g1 := rd40 f1
    obtain ⟨Ar, nr, cr, rm, e2, h2, hst⟩ := came_strs g1
    obtain ⟨Ac, nc, cc, zs, e3, hcl⟩ := came_cls f2
    have eu : [v0, v1] = [u0, u1] := eu
    injection eu with eu0 eu1
    injection eu1 with eu1
    have e0 : u0 = .int .i64 pf := by injection e0
    have e1 : u1 = .int .i64 pt := by injection e1
    subst eu0 eu1 e0 e1 e2 e3
    refine ⟨⟨pf, pt, nr, rm, nc, zs⟩, ⟨Ar, cr, Ac, cc⟩, fun j hj => ?_, h2, hst, hcl⟩
    match j, hj with
    | 0, _ | 1, _ | 2, _ | 3, _ => rfl
/-- what the walks are told of a wording -/
def Rd25 (w : World) (cs : List Value) : Prop := ∃ (x : Wr) (A E : Option Addr) (ca ce : Nat), cs = [.slice A x.nc ca, .slice E x.ne ce] ∧ WrAt w w.heap.size x A E
set_option maxRecDepth 100000 in
theorem rd25 (h : DataW.trod enc Tryz.prog w 0 (fun _ => true) true fuel 25 cs = some x) : Rd25 w cs := by
  obtain ⟨xs, n, hfu, _, hlen, hxl, hf⟩ := DataW.trod_struct Tryz.underlying25 h
  rw [show Tryz.prog.cellsOf 25 = 2 by kernel_rfl] at hlen
  match cs, hlen with
  | [v0, v1], _ =>
    obtain ⟨_, f0⟩ := fld (hf 0 _ rfl) (T := 22) (off := 0) (c := 1) rfl rfl (by kernel_rfl) (by rw [hxl]; decide)
    obtain ⟨_, f1⟩ := fld (hf 1 _ rfl) (T := 23) (off := 1) (c := 1) rfl rfl (by kernel_rfl) (by rw [hxl]; decide)
    obtain ⟨A, nc, ca, zs, e0, hcl⟩ := came_cls f0
    obtain ⟨E, ne, ce, e1, h5, h6, hel⟩ := slice_came (s := 4) Tryz.underlying23 (by kernel_rfl) f1
    obtain ⟨ys, hy1, hy2⟩ := came_cells (w := w) (A := E) (len := ne) (s := 4) (fun (z : En × NA) j => z.1.cell z.2 j) (⟨0, 0, 0, fun _ => ByteArray.empty, 0, zs⟩, ⟨none, 0, none, 0⟩) (fun z => EnAt w w.heap.size z.1 z.2) (by omega) (fun i hi' => by
      obtain ⟨a, cs', n', hA, hc, hl, hn', y, hy⟩ := hel i hi'
      obtain ⟨e, b, he, hat⟩ := came_en n' cs' y hy
      exact ⟨a, cs', (e, b), hA, hc, he, hat⟩)
    have q1 : v1 = .slice E ne ce := one_cell e1
    subst e0 q1
    exact ⟨⟨nc, zs, ne, fun i => (ys i).1⟩, A, E, ca, ce, rfl, hcl, by show ne ≤ big; unfold maxLen at h6; unfold big; omega, fun i => (ys i).2, hy1, hy2⟩
end
end Go.Proofs.YtlbkhhbbkedhkaaGreatDoor
namespace Go.Proofs.YtlbkhhbbkedhkaaGreatDoor
open Go.RowKit
set_option linter.unusedVariables false
set_option linter.unusedSimpArgs false

theorem made_out (W : World) (b : Nat) (v0 v1 : Value) (h : Int) (tmps : Array Value) (hh : Has W b #[v0, v1] 25) (h0 : ∃ a n c, v0 = .slice a n c) (h1 : ∃ a n c, v1 = .slice a n c)
    (ht : tmps.getD 4 undef = .pointer (some ⟨b, 0, none⟩)) (h5 : tmps.getD 5 undef = .int .i64 h) :
    (results Tryz.f7 tmps).run Tryz.prog W = .ok (.tuple #[.agg #[v0, v1], .int .i64 h]) W := by
  have c0 := hh.cell 0
  have c1 := hh.cell 1
  simp only [List.getElem?_toArray, List.getElem?_cons_zero, List.getElem?_cons_succ] at c0 c1
  have ht' : tmps[4]?.getD undef = .pointer (some ⟨b, 0, none⟩) := by simpa using ht
  have h5' : tmps[5]?.getD undef = .int .i64 h := by simpa using h5
  obtain ⟨a1, n1, k1, rfl⟩ := h0
  obtain ⟨a2, n2, k2, rfl⟩ := h1
  simp [results, Tryz.results7, go_sem, ht', h5', c0, c1]

/-- what made returns: a valid wording, and an hour -/
def MadeP (w : World) (r : Ending) (w' : World) : Prop := ∃ (x : Wr) (A E : Option Addr) (ca ce : Nat) (h : Int), r = .returned (.tuple #[.agg #[.slice A x.nc ca, .slice E x.ne ce], .int .i64 h]) ∧ WrAt w' w'.heap.size x A E ∧ x.ok ∧ (0 < x.nc ∧ x.ne ≤ 2 ∧ x.ne ≤ ce ∧ (x.ne = 0 → E = none ∧ ce = 0)) ∧ (0 ≤ h ∧ h ≤ 876599) ∧ Below w.heap.size w w'

/-- the same, and the wording lies in new memory -/
def MadeQ (w : World) (r : Ending) (w' : World) : Prop := ∃ (x : Wr) (A E : Option Addr) (ca ce : Nat) (h : Int), r = .returned (.tuple #[.agg #[.slice A x.nc ca, .slice E x.ne ce], .int .i64 h]) ∧ (∀ V : World, (∀ q, w.heap.size < q → q < w'.heap.size → V.heap[q]? = w'.heap[q]?) → w'.heap.size ≤ V.heap.size → WrAt V V.heap.size x A E) ∧ x.ok ∧ (0 < x.nc ∧ x.ne ≤ 2 ∧ x.ne ≤ ce ∧ (x.ne = 0 → E = none ∧ ce = 0)) ∧ (0 ≤ h ∧ h ≤ 876599) ∧ Below w.heap.size w w'

set_option maxRecDepth 100000 in
set_option maxHeartbeats 4000000 in
theorem made_strong (A : Option Addr) (n c : Nat) (z : Nat → Int) (k : Int) (w : World) (hn : n ≤ 9223372036854775807) (hc : Cells w w.heap.size A n fun j => .int .i64 (z j)) (hk : -9223372036854775808 ≤ k ∧ k ≤ 9223372036854775807) :
    Calls Tryz.prog 7 #[.slice A n c, .int .i64 k] w (MadeQ w) := by
  have HDD := Lib.hid hc
  clear hc
  obtain ⟨G, hG⟩ : ∃ G, w.heap.size = G := ⟨_, rfl⟩
  have HGE := Lib.hid hG
  go_enter Tryz.func7, Tryz.ntmps7
  go_upto_region 1 with (fail)
  have HB : Hid (Below w.heap.size w (w.alloc (.cells #[.slice none 0 0, .slice none 0 0] 25))) := Lib.hid ((Below.refl _ _).alloc (Nat.le_refl _) _)
  have HR := Lib.hid (Has.new w #[.slice none 0 0, .slice none 0 0] 25)
  obtain ⟨W, hW⟩ : ∃ W, w.alloc (.cells #[.slice none 0 0, .slice none 0 0] 25) = W := ⟨_, rfl⟩
  rw [hW] at HB HR ⊢
  rw [hG] at HR
  try rw [hG]
  clear hW hG
  have hGw : w.heap.size = G := HGE.out
  have hlG : G < W.heap.size := HR.out.lt
  have HWI := Lib.hid wr_info
  go_wp2_with fail
  refine (deck_new A n c z W hn ((HDD.out.below HB.out).mono HB.out.size)).mono ?_
  rintro e w1 ⟨rfl, hb, hdk⟩
  have HD := Lib.hid hdk
  replace HR := Lib.hid (HR.out.below hb hlG)
  replace HB := Lib.hid (HB.out.trans (hb.mono HB.out.size))
  obtain ⟨b, hb'⟩ : ∃ b, W.heap.size = b := ⟨_, rfl⟩
  rw [hb'] at HD hlG ⊢
  clear hb hdk HDD hb'
  go_wp2_with fail
  refine (next_any b 6 _ HD.out (by omega) (by omega)).mono ?_
  rintro r w2 ⟨v, rfl, _, _, hk2, hd⟩
  replace HD := Lib.hid hd
  replace HR := Lib.hid (HR.out.keeps hk2 (by omega))
  replace HB := Lib.hid (HB.out.trans (hk2.below (B := w.heap.size) (by omega) HB.out.size))
  clear hk2 hd
  go_wp2_with fail
  refine (schema_made v w2).mono ?_
  rintro e w3 ⟨As, ns, cs, ats, rfl, hs, hb2⟩
  have hlt1 := HD.out.lt
  have HS : Hid (SchIn (off b w3) w3 As ns ats) := Lib.hid (hs.keep (fun _ _ _ => rfl) (fun i hi => ⟨by omega, hi.2⟩))
  replace HD : Hid (IsDeck w3 b) := Lib.hid (HD.out.below hb2 hlt1)
  replace HR := Lib.hid (HR.out.below hb2 HR.out.lt)
  replace HB := Lib.hid (HB.out.trans (hb2.mono HB.out.size))
  clear hs hb2 hlt1
  go_wp2_with fail
  refine (next_any b 2 _ HD.out (by omega) (by omega)).mono ?_
  rintro r w4 ⟨u, rfl, _, _, hk2, hd⟩
  replace HD := Lib.hid hd
  replace HR := Lib.hid (HR.out.keeps hk2 (by omega))
  replace HS := Lib.hid (HS.out.keeps hk2)
  replace HB := Lib.hid (HB.out.trans (hk2.below (B := w.heap.size) (by omega) HB.out.size))
  obtain ⟨sd, hsd⟩ : ∃ s, (u == 0) = s := ⟨_, rfl⟩
  clear hk2 hd
  go_wp2_with fail
  refine (wording_made b As ns cs ats 5 _ w4 HD.out HS.out (by omega)).mono ?_
  rintro r w5 ⟨x, Ax, Ex, ca, ce, rfl, hx, hxo, hxn, hk2, hd⟩
  have HX : Hid (∀ V : World, (∀ q, G < q → q < w5.heap.size → V.heap[q]? = w5.heap[q]?) → w5.heap.size ≤ V.heap.size → WrAt V V.heap.size x Ax Ex) := Lib.hid fun V hV hs => hx V (fun q h1 h2 => hV q (by have := HR.out.lt; omega) h2) hs
  have HXO := Lib.hid hxo
  replace HR := Lib.hid (HR.out.keeps hk2 (by omega))
  replace HB := Lib.hid (HB.out.trans (hk2.below (B := w.heap.size) (by omega) HB.out.size))
  clear hk2 hd hx hxo HD HS hsd
  go_upto_region 3 with (fail)
  have HT := Lib.hid (Has.new w5 #[.slice Ax x.nc ca, .slice Ex x.ne ce] 25)
  have hG5 : G < w5.heap.size := HR.out.lt
  replace HX : Hid (∀ V : World, (∀ q, G < q → q < (w5.alloc (.cells #[.slice Ax x.nc ca, .slice Ex x.ne ce] 25)).heap.size → V.heap[q]? = (w5.alloc (.cells #[.slice Ax x.nc ca, .slice Ex x.ne ce] 25)).heap[q]?) → (w5.alloc (.cells #[.slice Ax x.nc ca, .slice Ex x.ne ce] 25)).heap.size ≤ V.heap.size → WrAt V V.heap.size x Ax Ex) := Lib.hid fun V hV hs => HX.out V (fun q h1 h2 => (hV q h1 (by simp; omega)).trans (Below.heap_alloc w5 _ q h2)) (by simp at hs; omega)
  replace HR := Lib.hid (HR.out.alloc (.cells #[.slice Ax x.nc ca, .slice Ex x.ne ce] 25))
  replace HB := Lib.hid (HB.out.alloc HB.out.size (.cells #[.slice Ax x.nc ca, .slice Ex x.ne ce] 25))
  obtain ⟨T, hT⟩ : ∃ T, w5.heap.size = T := ⟨_, rfl⟩
  obtain ⟨w6, hw6⟩ : ∃ T, w5.alloc (.cells #[.slice Ax x.nc ca, .slice Ex x.ne ce] 25) = T := ⟨_, rfl⟩
  rw [hw6] at HT HX HR HB ⊢
  rw [hT] at HT ⊢
  have hGT : G < T := by omega
  clear hT hw6
  obtain ⟨t0, t1, t2⟩ := HT.out.rules
  go_wp2_with fail
  refine (rpoints_any x Ax Ex ca ce w6 (HX.out w6 (fun _ _ _ => rfl) (Nat.le_refl _))).mono ?_
  rintro r w7 ⟨Ap, cp, rfl, hp, hb⟩
  have hpts : ptsOf x = ptsR x.es x.ne := ptsOf_yes HXO.out
  have hlen : 0 < (ptsOf x).length ∧ (ptsOf x).length ≤ 25 := ⟨List.length_pos_of_mem (by rw [hpts]; exact ptsR_zero x.es x.ne), ptsOf_few x⟩
  have HRG : Hid (∀ j, j < (ptsOf x).length → 0 ≤ nth (ptsOf x) j ∧ nth (ptsOf x) j ≤ 876599) := Lib.hid fun j hj => by
    have := nth_mem (ptsOf x) j hj
    rw [hpts] at this ⊢
    exact ptsR_range HXO.out.2 this
  replace HR := Lib.hid (HR.out.below hb HR.out.lt)
  replace HT := Lib.hid (HT.out.below hb HT.out.lt)
  replace HX : Hid (∀ V : World, (∀ q, G < q → q < w7.heap.size → V.heap[q]? = w7.heap[q]?) → w7.heap.size ≤ V.heap.size → WrAt V V.heap.size x Ax Ex) := Lib.hid fun V hV hs => HX.out V (fun q h1 h2 => (hV q h1 (by have := hb.size; omega)).trans (hb.block q h2)) (by have := hb.size; omega)
  replace HB := Lib.hid (HB.out.trans (hb.mono HB.out.size))
  have HP : Hid (Ints w7 w7.heap.size Ap (ptsOf x)) := Lib.hid hp
  obtain ⟨pts, hpe⟩ : ∃ z, ptsOf x = z := ⟨_, rfl⟩
  rw [hpe] at HP HRG hlen ⊢
  have HEND : Hid (∀ (q : Nat) (h : Int), 0 ≤ h ∧ h ≤ 876599 → MadeQ w (.returned (.tuple #[.agg #[.slice Ax x.nc ca, .slice Ex x.ne ce], .int .i64 h])) (((w7.drewN q).setCell ⟨G, 0, none⟩ (.slice Ax x.nc ca)).setCell ⟨G, 1, none⟩ (.slice Ex x.ne ce))) := Lib.hid fun q h hh =>
    ⟨x, Ax, Ex, ca, ce, h, rfl, fun V hV hs => HX.out V (fun p h1 h2 => (hV p (by omega) (by simp; omega)).trans (by rw [Below.heap_setCell _ ⟨G, 1, none⟩ _ p (show p ≠ G by omega), Below.heap_setCell _ ⟨G, 0, none⟩ _ p (show p ≠ G by omega)]; rfl)) (by simp at hs; omega), HXO.out, hxn, hh, Below.setCell (Below.setCell (below_drewN HB.out q) (by simp only; omega) _) (by simp only; omega) _⟩
  clear hp hb hpts hpe t0 t1 t2
  obtain ⟨t0, t1, t2⟩ := HT.out.rules
  obtain ⟨r0, r1, r2⟩ := HR.out.rules
  go_wp2_with fail
  refine (within_any k 4 _ (by omega) (by omega)).mono ?_
  rintro e w' ⟨rfl, rfl⟩
  obtain ⟨q0, q1⟩ := Am.within_bound k 4 (by omega)
  obtain ⟨v, hv⟩ : ∃ z, Am.within k 4 = z := ⟨_, rfl⟩
  rw [hv] at q0 q1 ⊢
  clear hv
  have hquo : IntKind.i64.wrap (k.tdiv 4) = k.tdiv 4 := by
    have h1 := Int.mul_tdiv_add_tmod k 4
    have h2 := Am.tmod_bound k 4 (by omega)
    rw [IntKind.wrap_i64]
    omega
  obtain ⟨kq, hkq⟩ : ∃ z, k.tdiv 4 = z := ⟨_, rfl⟩
  rw [hkq] at hquo
  have HBB : Hid (Keeps G w7 w7.drew) := Lib.hid (Keeps.refl _ _).drew
  have hz4 : ¬ (4 : Int) = 0 := by omega
  by_cases hv0 : v = 0
  · subst hv0
    go_upto_region 6 with (fail)
    have HPX : Hid (∃ (j bp op : Nat), Am.within kq pts.length = (j : Nat) ∧ Ap = some ⟨bp, op, none⟩ ∧ (∀ V, Keeps G w7 V → V.cell? ⟨bp, op + j, none⟩ = some (.int .i64 (nth pts j))) ∧ (j < pts.length ∧ 0 ≤ nth pts j ∧ nth pts j ≤ 876599)) := Lib.hid (by
      obtain ⟨i0, i1⟩ := Am.within_bound kq pts.length (by omega)
      obtain ⟨j, hj⟩ : ∃ j : Nat, Am.within kq pts.length = j := ⟨(Am.within kq pts.length).toNat, by omega⟩
      rw [hj] at i1
      obtain ⟨bp, op, e, hbl, hc⟩ := Nums.get (f := nth pts) HP.out (show j < pts.length by omega)
      refine ⟨j, bp, op, hj, e, fun V hk => ?_, by omega, HRG.out j (by omega)⟩
      have hne : bp ≠ G := fun c => by
        have h1 := HR.out.cell (op + j)
        rw [← c, hc] at h1
        match op + j, h1 with
        | 0, h1 => simp at h1
        | 1, h1 => simp at h1
        | q + 2, h1 => simp at h1
      rw [World.cell?_of_block (w := w7) (hk.block bp hbl hne)]
      exact hc)
    obtain ⟨j, bp, op, HJ, rfl, hpc, hjl, hn0, hn1⟩ := HPX.out
    have HJW := Lib.hid HJ
    clear HJ HPX
    have HSS : Hid (∀ V, Keeps G w7 V → (V.cell? ⟨T, 0, none⟩ = some (.slice Ax x.nc ca) ∧ V.cell? ⟨T, 1, none⟩ = some (.slice Ex x.ne ce)) ∧ V.cell? ⟨bp, op + j, none⟩ = some (.int .i64 (nth pts j))) := Lib.hid fun V hk => ⟨⟨by rw [(HT.out.keeps hk (by omega)).cell]; rfl, by rw [(HT.out.keeps hk (by omega)).cell]; rfl⟩, hpc V hk⟩
    obtain ⟨pj, hpj⟩ : ∃ z, nth pts j = z := ⟨_, rfl⟩
    rw [hpj] at HSS hn0 hn1
    have hj1 : (j : Int) < pts.length := by omega
    have hj0 : (0 : Int) ≤ j := by omega
    clear hpc hpj
    go_region_held3 (fun V => (V.cell? ⟨T, 0, none⟩ = some (.slice Ax x.nc ca) ∧ V.cell? ⟨T, 1, none⟩ = some (.slice Ex x.ne ce)) ∧ V.cell? ⟨bp, op + j, none⟩ = some (.int .i64 pj)) (first | exact HSS.out _ HBB.out | exact HSS.out _ ((HBB.out.put 0 _).put 1 _)) (first
      | (go_at_call 13; refine (within_any kq pts.length _ (by omega) (by omega)).mono ?_; rintro e w' ⟨rfl, rfl⟩; rw [HJW.out]))
    all_goals
      go_wp2_with fail
      refine bodyPost_ret (made_out _ G _ _ _ _ ((HR.out.drew.put 0 _).put 1 _) ⟨_, _, _, rfl⟩ ⟨_, _, _, rfl⟩ rfl rfl) rfl ?_
      exact HEND.out 1 _ ⟨by omega, by omega⟩
  · have p0 : (v == 0) = false := by simpa using hv0
    by_cases hv1 : v = 1
    · subst hv1
      go_upto_region 8 with (fail)
      have HPX : Hid (∃ (j bp op : Nat), Am.within kq pts.length = (j : Nat) ∧ Ap = some ⟨bp, op, none⟩ ∧ (∀ V, Keeps G w7 V → V.cell? ⟨bp, op + j, none⟩ = some (.int .i64 (nth pts j))) ∧ (j < pts.length ∧ 0 ≤ nth pts j ∧ nth pts j ≤ 876599)) := Lib.hid (by
        obtain ⟨i0, i1⟩ := Am.within_bound kq pts.length (by omega)
        obtain ⟨j, hj⟩ : ∃ j : Nat, Am.within kq pts.length = j := ⟨(Am.within kq pts.length).toNat, by omega⟩
        rw [hj] at i1
        obtain ⟨bp, op, e, hbl, hc⟩ := Nums.get (f := nth pts) HP.out (show j < pts.length by omega)
        refine ⟨j, bp, op, hj, e, fun V hk => ?_, by omega, HRG.out j (by omega)⟩
        have hne : bp ≠ G := fun c => by
          have h1 := HR.out.cell (op + j)
          rw [← c, hc] at h1
          match op + j, h1 with
          | 0, h1 => simp at h1
          | 1, h1 => simp at h1
          | q + 2, h1 => simp at h1
        rw [World.cell?_of_block (w := w7) (hk.block bp hbl hne)]
        exact hc)
      obtain ⟨j, bp, op, HJ, rfl, hpc, hjl, hn0, hn1⟩ := HPX.out
      have HJW := Lib.hid HJ
      clear HJ HPX
      have HSS : Hid (∀ V, Keeps G w7 V → (V.cell? ⟨T, 0, none⟩ = some (.slice Ax x.nc ca) ∧ V.cell? ⟨T, 1, none⟩ = some (.slice Ex x.ne ce)) ∧ V.cell? ⟨bp, op + j, none⟩ = some (.int .i64 (nth pts j))) := Lib.hid fun V hk => ⟨⟨by rw [(HT.out.keeps hk (by omega)).cell]; rfl, by rw [(HT.out.keeps hk (by omega)).cell]; rfl⟩, hpc V hk⟩
      obtain ⟨pj, hpj⟩ : ∃ z, nth pts j = z := ⟨_, rfl⟩
      rw [hpj] at HSS hn0 hn1
      have hj1 : (j : Int) < pts.length := by omega
      have hj0 : (0 : Int) ≤ j := by omega
      clear hpc hpj
      have hwp : IntKind.i64.wrap (pj - 1) = pj - 1 := by rw [IntKind.wrap_i64]; omega
      go_region_held3 (fun V => (V.cell? ⟨T, 0, none⟩ = some (.slice Ax x.nc ca) ∧ V.cell? ⟨T, 1, none⟩ = some (.slice Ex x.ne ce)) ∧ V.cell? ⟨bp, op + j, none⟩ = some (.int .i64 pj)) (first | exact HSS.out _ HBB.out | exact HSS.out _ ((HBB.out.put 0 _).put 1 _)) (first
        | (go_at_call 13; refine (within_any kq pts.length _ (by omega) (by omega)).mono ?_; rintro e w' ⟨rfl, rfl⟩; rw [HJW.out]))
      all_goals
        go_wp2_with fail
        refine bodyPost_ret (made_out _ G _ _ _ _ ((HR.out.drew.put 0 _).put 1 _) ⟨_, _, _, rfl⟩ ⟨_, _, _, rfl⟩ rfl rfl) rfl ?_
        exact HEND.out 1 _ ⟨by omega, by omega⟩
    · have p1 : (v == 1) = false := by simpa using hv1
      go_upto_region 9 with (fail)
      obtain ⟨i0, i1⟩ := Am.within_bound kq 876600 (by omega)
      have HSS : Hid (∀ V, Keeps G w7 V → V.cell? ⟨T, 0, none⟩ = some (.slice Ax x.nc ca) ∧ V.cell? ⟨T, 1, none⟩ = some (.slice Ex x.ne ce)) := Lib.hid fun V hk => ⟨by rw [(HT.out.keeps hk (by omega)).cell]; rfl, by rw [(HT.out.keeps hk (by omega)).cell]; rfl⟩
      go_region_held3 (fun V => V.cell? ⟨T, 0, none⟩ = some (.slice Ax x.nc ca) ∧ V.cell? ⟨T, 1, none⟩ = some (.slice Ex x.ne ce)) (first | exact HSS.out _ HBB.out | exact HSS.out _ ((HBB.out.put 0 _).put 1 _)) (first
        | (go_at_call 13; refine (within_any kq 876600 _ (by omega) (by omega)).mono ?_; rintro e w' ⟨rfl, rfl⟩))
      all_goals
        go_wp2_with fail
        refine bodyPost_ret (made_out _ G _ _ _ _ ((HR.out.drew.put 0 _).put 1 _) ⟨_, _, _, rfl⟩ ⟨_, _, _, rfl⟩ rfl rfl) rfl ?_
        exact HEND.out 1 _ ⟨by omega, by omega⟩
theorem made_any (A : Option Addr) (n c : Nat) (z : Nat → Int) (k : Int) (w : World) (hn : n ≤ 9223372036854775807) (hc : Cells w w.heap.size A n fun j => .int .i64 (z j)) (hk : -9223372036854775808 ≤ k ∧ k ≤ 9223372036854775807) :
    Calls Tryz.prog 7 #[.slice A n c, .int .i64 k] w (MadeP w) :=
  (made_strong A n c z k w hn hc hk).mono fun r w' ⟨x, A, E, ca, ce, h, h1, h2, h3⟩ => ⟨x, A, E, ca, ce, h, h1, h2 w' (fun _ _ _ => rfl) (Nat.le_refl _), h3⟩
end Go.Proofs.YtlbkhhbbkedhkaaGreatDoor
namespace Go.Proofs.YtlbkhhbbkedhkaaGreatDoor
open Go.RowKit
set_option linter.unusedVariables false

theorem ClsAt.zero {w : World} {B : Nat} {A : Option Addr} {cs : Nat → Cl} : ClsAt w B A 0 cs := ⟨Nat.zero_le _, fun _ => ⟨⟨none, 0, none, 0⟩, none, 0⟩, by rw [Nat.zero_mul]; exact Cells.zero, fun i hi => absurd hi (Nat.not_lt_zero _)⟩
/-- what InForce has returned, and what it will return once more -/
theorem InfP.take {R : Except Int (List Cl)} {w w' : World} {r : Ending} (h : InfP R w r w') : ∃ (A : Option Addr) (n c : Nat) (cs : Nat → Cl) (e : Int), r = .returned (.tuple #[.slice A n c, .int .i64 e]) ∧ ClsAt w' w'.heap.size A n cs ∧ Below w.heap.size w w' ∧
    ∀ (W : World) (r2 : Ending) (W' : World), InfP R W r2 W' → ∃ (A2 : Option Addr) (c2 : Nat), r2 = .returned (.tuple #[.slice A2 n c2, .int .i64 e]) ∧ ClsAt W' W'.heap.size A2 n cs ∧ Below W.heap.size W W' := by
  obtain ⟨hb, ⟨e, h1, _, h3⟩ | ⟨L, A, n, c, cs, h1, h2, h3, h4⟩⟩ := h
  · refine ⟨none, 0, 0, fun i => (noZ i).1, e, h3, ClsAt.zero, hb, fun W r2 W' hi => ?_⟩
    obtain ⟨hb2, ⟨e2, k1, _, k3⟩ | ⟨L2, A2, n2, c2, cs2, k1, _⟩⟩ := hi
    · rw [h1] at k1
      injection k1 with k1
      subst k1
      exact ⟨none, 0, k3, ClsAt.zero, hb2⟩
    · rw [h1] at k1
      cases k1
  · refine ⟨A, n, c, cs, 0, h2, h3, hb, fun W r2 W' hi => ?_⟩
    obtain ⟨hb2, ⟨e2, k1, _⟩ | ⟨L2, A2, n2, c2, cs2, k1, k2, k3, k4⟩⟩ := hi
    · rw [h1] at k1
      cases k1
    · rw [h1] at k1
      injection k1 with k1
      subst k1
      rw [← h4] at k4
      obtain ⟨rfl, he⟩ := listC_inj k4
      exact ⟨A2, c2, k2, k3.congr he, hb2⟩
end Go.Proofs.YtlbkhhbbkedhkaaGreatDoor
namespace Go.Proofs.YtlbkhhbbkedhkaaGreatDoor
open Go.RowKit
set_option linter.unusedVariables false

theorem step_append_cells {P : Program} {w : World} {ops : Array Oper} {o : Oper} {a : Act} {K : Act → World → Prop} {Q : Exit → Act → World → Prop} {G : Prop} (hgd : o.guard = none) (s x : Operand) (t : TypeId)
    (ho : o.op = .call { callee := .builtin .append, args := #[s, x], argTypes := #[t, t] })
    (base : Nat) (e : TypeId) (i : TypeInfo) (z : Value) (size bytes : Nat) (ht : P.underlying t = some (.slice e)) (hi : P.info? e = some i) (hz : i.zero = some z)
    (hsize : i.size = size) (hby : i.bytes = bytes) (hzs : z.cells.size = size) (hsz : 0 < size)
    (v : Value) (n : Nat) (xs : List Value) (hs : a.eval s = v) (hown : w.ownsRow base e size v n xs)
    (B : Nat) (A : Option Addr) (m c : Nat) (f : Nat → Value) (hx : a.eval x = .slice A m c) (hc : Cells w B A (m * size) f) (hnil : A = none → m = 0 ∧ c = 0) (h1 : ∀ j, j < m * size → (f j).oneCell' = true)
    (h63 : n + m ≤ maxLen) (hbytes : (n + m) * bytes ≤ 140737488355328) (hbase : base ≤ w.heap.size)
    (h : ∀ v' w', w'.ownsRow base e size v' (n + m) (xs ++ (List.range (m * size)).map f) → w.grownBy w' v.ownBlock → (v'.ownBlock = v.ownBlock ∨ v'.ownBlock = some w.heap.size) → K (a.put o.dst v') w') :
    if Region.wanted o (yielded ops a.tmps) = true then Oper.wp P o a w K Q else G := by
  have hw : Region.wanted o (yielded ops a.tmps) = true := by simp [Region.wanted, hgd]
  rw [if_pos hw]
  obtain ⟨v', w', hrun, h2, h3, h4⟩ := run_append_cells (P := P) w base t o.type e i z size bytes ht hi hz hsize hby hzs hsz v n xs hown B A m c f hc hnil h1 h63 hbytes hbase
  unfold Oper.wp execOp
  simp only [ho, resolve, invoke, builtin, Sem.run_bind, Sem.run_pure, Result.andThen_ok, List.map_toArray, List.map_cons, List.map_nil, hs, hx, hrun]
  exact h v' w' h2 h3 h4

/-- the cells of the endorsements es at P -/
def enF (es : Nat → En) (P : Nat → NA) (j : Nat) : Value := (es (j / 4)).cell (P (j / 4)) (j % 4)
def insP (P : Nat → NA) (k : Nat) (a : NA) (i : Nat) : NA := if i < k then P i else if i = k then a else P (i - 1)
theorem enF_one {es : Nat → En} {P : Nat → NA} {j : Nat} : (enF es P j).oneCell' = true := by
  have h4 : j % 4 < 4 := Nat.mod_lt _ (by omega)
  unfold enF
  match j % 4, h4 with
  | 0, _ | 1, _ | 2, _ | 3, _ => rfl
theorem ins_row {es : Nat → En} {P : Nat → NA} {k n : Nat} {y : En} {a : NA} (hk : k ≤ n) : (List.range (k * 4)).map (enF es P) ++ (y.cells a).toList ++ (List.range ((n - k) * 4)).map (fun j => enF es P (k * 4 + j)) = rowL ((n + 1) * 4) (enF (insE es k y) (insP P k a)) := by
  apply List.ext_getElem?
  intro j
  by_cases h1 : j < k * 4
  · rw [List.append_assoc, List.getElem?_append_left (by simpa using h1), rowL_get _ _ _ (by omega), List.getElem?_map, List.getElem?_range h1]
    simp only [Option.map_some, Option.some.injEq]
    unfold enF insP
    rw [insE_low (by omega), if_pos (by omega)]
  · by_cases h2 : j < k * 4 + 4
    · rw [List.append_assoc, List.getElem?_append_right (by simpa using h1), List.getElem?_append_left (by simp [En.cells]; omega), rowL_get _ _ _ (by omega)]
      simp only [List.length_map, List.length_range]
      rw [En.cells_get _ _ _ (by omega)]
      simp only [Option.some.injEq]
      unfold enF insP
      have e1 : j / 4 = k := by omega
      rw [e1, insE_at, if_neg (by omega), if_pos rfl, show j - k * 4 = j % 4 by omega]
    · by_cases h3 : j < (n + 1) * 4
      · rw [List.getElem?_append_right (by simp [En.cells]; omega), rowL_get _ _ _ h3]
        have hl : ((List.range (k * 4)).map (enF es P) ++ (y.cells a).toList).length = k * 4 + 4 := by simp [En.cells]
        rw [hl, List.getElem?_map, List.getElem?_range (by omega)]
        simp only [Option.map_some, Option.some.injEq]
        unfold enF insP
        rw [show k * 4 + (j - (k * 4 + 4)) = j - 4 by omega]
        obtain ⟨i, hi⟩ : ∃ i, j / 4 = i + 1 := ⟨j / 4 - 1, by omega⟩
        rw [hi, insE_high (by omega), if_neg (by omega), if_neg (by omega), show (j - 4) / 4 = i by omega, show (j - 4) % 4 = j % 4 by omega]
        rfl
      · have hl : ((List.range (k * 4)).map (enF es P) ++ (y.cells a).toList ++ (List.range ((n - k) * 4)).map (fun j => enF es P (k * 4 + j))).length = (n + 1) * 4 := by simp [En.cells]; omega
        rw [List.getElem?_eq_none (by omega), List.getElem?_eq_none (by rw [rowL_length]; omega)]
theorem Cells.less {w : World} {B m n : Nat} {A : Option Addr} {f : Nat → Value} (h : Cells w B A n f) (hm : m ≤ n) : Cells w B A m f := fun h0 => by
  obtain ⟨a, e, hb, hc⟩ := h (by omega)
  exact ⟨a, e, hb, fun j hj => hc j (by omega)⟩
set_option maxRecDepth 100000 in
theorem out_names : nameB ⟨#[110, 111, 116, 104, 105, 110, 103]⟩ = true ∧ nameB ⟨#[99, 45, 97, 97]⟩ = true := ⟨by decide +kernel, by decide +kernel⟩
/-- the endorsement of the law -/
def outE (f t : Int) : En := ⟨f, t, 1, fun _ => ⟨#[110, 111, 116, 104, 105, 110, 103]⟩, 1, fun _ => covC ⟨#[99, 45, 97, 97]⟩⟩
theorem outE_ok {f t : Int} (h : 0 ≤ f ∧ f < t ∧ t ≤ 876599) : (outE f t).ok := ⟨⟨h, show 1 ≤ 40 by omega⟩, ⟨fun i _ => out_names.1, fun i hi k hk => (by have hi : i < 1 := hi; omega)⟩, cls_one (covC_ok out_names.2)⟩
end Go.Proofs.YtlbkhhbbkedhkaaGreatDoor
