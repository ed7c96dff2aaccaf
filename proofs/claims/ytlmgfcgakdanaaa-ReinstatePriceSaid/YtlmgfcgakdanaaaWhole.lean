/- A whole struct or array out of and into a block that is known whole, as laws of a plain region. No program in sight. -/
import Derived.Test.YtlmgfcgakdanaaaLeav
import Derived.Laws.Rows
import Derived.Laws.Tables
import Derived.Deep.WholeRow
namespace Go.Proofs.Ytlmgfcgakdanaaa
open Go.RowKit

theorem Has.alloc1 {w : World} {b : Nat} {cs : Array Value} {t : TypeId} {o : Obj} (h : Has w b cs t) : Has (w.alloc o) b cs t := h.alloc o

/-- all the cells of a block, as the walk reads a struct -/
theorem Has.load {P : Program} {w : World} {b : Nat} {cs : Array Value} {t : TypeId} (h : Has w b cs t) (n : Nat) (hn : cs.size = n) : (loadCellsFrom ⟨b, 0, none⟩ 0 n #[]).run P w = .ok cs w := by
  subst hn
  have := run_loadCells_list (P := P) w ⟨b, 0, none⟩ cs.toList (fun j v hv => by
    rw [Go.WideShapes.add_plain, Nat.zero_add, h.cell]
    simpa using hv)
  simpa [loadCells] using this

section
variable {P : Program} {ops : Array Oper} {rest : List Oper} {o : Oper} {a : Act} {w : World} {Q : Exit → Act → World → Prop}
theorem wpList_load_has (hgd : o.guard = none) (ty : TypeId) (x : Operand) (ho : o.op = .load ty x)
    (g : Nat) (hx : a.eval x = .pointer (some ⟨g, 0, none⟩)) (t : TypeId) (cs : Array Value) (d : TypeDesc) (hg : Has w g cs t)
    (hu : P.underlying ty = some d) (hd : (match d with | .struct _ | .array _ _ => true | _ => false) = true) (hi : (P.info? ty).map (·.size) = some cs.size)
    (h : wpList P ops Q rest (a.put o.dst (.agg cs)) w) : wpList P ops Q (o :: rest) a w :=
  wpList_load_row hgd ty x ho g hx t cs (0, 0) d hg hu hd hi h
theorem wpList_store_has (hgd : o.guard = none) (ty : TypeId) (x y : Operand) (ho : o.op = .store ty x y)
    (g : Nat) (hx : a.eval x = .pointer (some ⟨g, 0, none⟩)) (cells : Array Value) (hy : a.eval y = .agg cells)
    (t : TypeId) (old : Array Value) (hg : Has w g old t) (hi : (P.info? ty).map (·.size) = some cells.size)
    (hold : old.size = cells.size) (h1 : cells.toList.all (·.oneCell') = true)
    (h : ∀ w2, Has w2 g cells t → Leaves (fun k => k = g) w w2 → wpList P ops Q rest (a.put o.dst undef) w2) : wpList P ops Q (o :: rest) a w :=
  wpList_store_row hgd ty x y ho g cells hx hy t old hg hi hold (by rw [← Array.all_toList]; exact h1) (h _ (setRow_heap w g old cells t (0, 0) hg)
    ⟨rfl, rfl, rfl, by simp, fun k _ hn => setRow_other w g k cells hn⟩)
theorem wpList_build_is (hgd : o.guard = none) (t : TypeId) (parts : List (Nat × Operand)) (ho : o.op = .build t parts.toArray) (L : List (Nat × Value)) (hp : parts.map (fun x => (x.1, a.eval x.2)) = L)
    (cells : Array Value) (hb : P.built t L = some cells) (h : wpList P ops Q rest (a.put o.dst (.agg cells)) w) : wpList P ops Q (o :: rest) a w := by
  have e : (parts.toArray.map fun (i, x) => (i, a.eval x)).toList = L := by simpa using hp
  exact wpList_build hgd t parts.toArray ho (by rw [e, hb]; rfl) (by rw [e, hb]; exact h)
end
end Go.Proofs.Ytlmgfcgakdanaaa
