/- What a walk is told of the arguments of a law, type by type (printed by wip/read.py). -/
import Derived.Test.YtigoeaidlgofoaaProg
import Derived.WalkKit
import Derived.ProofKit
import Derived.OpenShut
import Derived.Deep.Slices
import Derived.Deep.Fields
import Derived.ChangeSame
import Derived.KernelRfl
namespace Go.Proofs.Ytigoeaidlgofoaa
open Go.ChangeShapes Go.WideShapes Go.Deep Go.RowKit
section
variable {H : Type} {enc : TypeId × Value → H} {w : World} {fuel : Nat} {cs : List Value} {x : DataW H × List MemPlace}
theorem fld {n j T off c : Nat} {f : Field} {xs : List (DataW H × List MemPlace)}
    (hf : DataW.trod enc Try.prog w 0 (fun _ => true) true n f.type ((cs.drop f.offset).take (Try.prog.cellsOf f.type)) = xs[j]?) (ht : f.type = T) (ho : f.offset = off) (hc : Try.prog.cellsOf T = c) (hj : j < xs.length) :
    ∃ y, DataW.trod enc Try.prog w 0 (fun _ => true) true n T ((cs.drop off).take c) = some y := by
  subst ht ho
  rw [hc] at hf
  exact ⟨_, hf.trans (List.getElem?_eq_getElem hj)⟩
def Rd3 (_ : World) (cs : List Value) : Prop := ∃ n : Int, cs = [.int .i64 n] ∧ (Lit.int .i64 n).wf = true
theorem rd3 (h : DataW.trod enc Try.prog w 0 (fun _ => true) true fuel 3 cs = some x) : Rd3 w cs := by
  obtain ⟨n, h1, _, h2⟩ := DataW.trod_int Try.underlying3 h
  exact ⟨n, h1, h2⟩
def Rd4 (_ : World) (cs : List Value) : Prop := ∃ b : Bool, cs = [.bool b]
theorem rd4 (h : DataW.trod enc Try.prog w 0 (fun _ => true) true fuel 4 cs = some x) : Rd4 w cs := by
  obtain ⟨n, h1, _⟩ := DataW.trod_bool Try.underlying4 h
  exact ⟨n, h1⟩
def Rd5 (_ : World) (cs : List Value) : Prop := ∃ n : Int, cs = [.int .u8 n] ∧ (Lit.int .u8 n).wf = true
theorem rd5 (h : DataW.trod enc Try.prog w 0 (fun _ => true) true fuel 5 cs = some x) : Rd5 w cs := by
  obtain ⟨n, h1, _, h2⟩ := DataW.trod_int Try.underlying5 h
  exact ⟨n, h1, h2⟩
def Rd22 (w : World) (cs : List Value) : Prop := cs = [.slice none 0 0] ∨ ∃ (a : Addr) (len cap : Nat), cs = [.slice (some a) len cap] ∧ len ≤ cap ∧ cap ≤ maxLen ∧ ∀ i, i < cap → ∃ cs' : List Value, cs'.length = 1 ∧ (∀ j, j < 1 → w.cell? (a.add (i * 1 + j)) = cs'[j]?) ∧ Rd3 w cs'
set_option maxRecDepth 100000 in
theorem rd22 (h : DataW.trod enc Try.prog w 0 (fun _ => true) true fuel 22 cs = some x) : Rd22 w cs := by
  have hC : Try.prog.cellsOf 3 = 1 := by kernel_rfl
  rcases open_slice Try.underlying22 h with ⟨h0, _⟩ | ⟨a, len, cap, m, n, D, Pl, hcs, _, hl, hm, hmm, _, hi⟩
  · exact .inl h0
  · rw [if_pos rfl] at hmm
    subst hmm
    refine .inr ⟨a, len, m, hcs, hl, hm, fun i hi' => ?_⟩
    obtain ⟨cs', hc, ht'⟩ := hi i hi'
    rw [hC] at hc
    obtain ⟨_, hcl, hat⟩ := World.cells?_some hc
    exact ⟨cs', hcl, fun j hj => by rw [← Go.Deep.add_add]; exact hat j hj, rd3 ht'⟩
def Rd36 (w : World) (cs : List Value) : Prop := ∃ v0 v1 : Value, cs = [v0, v1] ∧ Rd3 w [v0] ∧ Rd3 w [v1]
set_option maxRecDepth 100000 in
theorem rd36 (h : DataW.trod enc Try.prog w 0 (fun _ => true) true fuel 36 cs = some x) : Rd36 w cs := by
  obtain ⟨xs, n, _, _, hlen, hxl, hf⟩ := DataW.trod_struct Try.underlying36 h
  rw [show Try.prog.cellsOf 36 = 2 by kernel_rfl] at hlen
  match cs, hlen with
  | [v0, v1], _ =>
    obtain ⟨_, f0⟩ := fld (hf 0 _ rfl) (T := 3) (off := 0) (c := 1) rfl rfl (by kernel_rfl) (by rw [hxl]; decide)
    obtain ⟨_, f1⟩ := fld (hf 1 _ rfl) (T := 3) (off := 1) (c := 1) rfl rfl (by kernel_rfl) (by rw [hxl]; decide)
    exact ⟨v0, v1, rfl, rd3 f0, rd3 f1⟩
def Rd30 (w : World) (cs : List Value) : Prop := cs = [.slice none 0 0] ∨ ∃ (a : Addr) (len cap : Nat), cs = [.slice (some a) len cap] ∧ len ≤ cap ∧ cap ≤ maxLen ∧ ∀ i, i < cap → ∃ cs' : List Value, cs'.length = 2 ∧ (∀ j, j < 2 → w.cell? (a.add (i * 2 + j)) = cs'[j]?) ∧ Rd36 w cs'
set_option maxRecDepth 100000 in
theorem rd30 (h : DataW.trod enc Try.prog w 0 (fun _ => true) true fuel 30 cs = some x) : Rd30 w cs := by
  have hC : Try.prog.cellsOf 36 = 2 := by kernel_rfl
  rcases open_slice Try.underlying30 h with ⟨h0, _⟩ | ⟨a, len, cap, m, n, D, Pl, hcs, _, hl, hm, hmm, _, hi⟩
  · exact .inl h0
  · rw [if_pos rfl] at hmm
    subst hmm
    refine .inr ⟨a, len, m, hcs, hl, hm, fun i hi' => ?_⟩
    obtain ⟨cs', hc, ht'⟩ := hi i hi'
    rw [hC] at hc
    obtain ⟨_, hcl, hat⟩ := World.cells?_some hc
    exact ⟨cs', hcl, fun j hj => by rw [← Go.Deep.add_add]; exact hat j hj, rd36 ht'⟩
def Rd42 (w : World) (cs : List Value) : Prop := ∃ v0 v1 : Value, cs = [v0, v1] ∧ Rd3 w [v0] ∧ Rd3 w [v1]
set_option maxRecDepth 100000 in
theorem rd42 (h : DataW.trod enc Try.prog w 0 (fun _ => true) true fuel 42 cs = some x) : Rd42 w cs := by
  obtain ⟨xs, n, _, _, hlen, hxl, hf⟩ := DataW.trod_struct Try.underlying42 h
  rw [show Try.prog.cellsOf 42 = 2 by kernel_rfl] at hlen
  match cs, hlen with
  | [v0, v1], _ =>
    obtain ⟨_, f0⟩ := fld (hf 0 _ rfl) (T := 3) (off := 0) (c := 1) rfl rfl (by kernel_rfl) (by rw [hxl]; decide)
    obtain ⟨_, f1⟩ := fld (hf 1 _ rfl) (T := 3) (off := 1) (c := 1) rfl rfl (by kernel_rfl) (by rw [hxl]; decide)
    exact ⟨v0, v1, rfl, rd3 f0, rd3 f1⟩
def Rd40 (w : World) (cs : List Value) : Prop := cs = [.slice none 0 0] ∨ ∃ (a : Addr) (len cap : Nat), cs = [.slice (some a) len cap] ∧ len ≤ cap ∧ cap ≤ maxLen ∧ ∀ i, i < cap → ∃ cs' : List Value, cs'.length = 2 ∧ (∀ j, j < 2 → w.cell? (a.add (i * 2 + j)) = cs'[j]?) ∧ Rd42 w cs'
set_option maxRecDepth 100000 in
theorem rd40 (h : DataW.trod enc Try.prog w 0 (fun _ => true) true fuel 40 cs = some x) : Rd40 w cs := by
  have hC : Try.prog.cellsOf 42 = 2 := by kernel_rfl
  rcases open_slice Try.underlying40 h with ⟨h0, _⟩ | ⟨a, len, cap, m, n, D, Pl, hcs, _, hl, hm, hmm, _, hi⟩
  · exact .inl h0
  · rw [if_pos rfl] at hmm
    subst hmm
    refine .inr ⟨a, len, m, hcs, hl, hm, fun i hi' => ?_⟩
    obtain ⟨cs', hc, ht'⟩ := hi i hi'
    rw [hC] at hc
    obtain ⟨_, hcl, hat⟩ := World.cells?_some hc
    exact ⟨cs', hcl, fun j hj => by rw [← Go.Deep.add_add]; exact hat j hj, rd42 ht'⟩
def Rd53 (w : World) (cs : List Value) : Prop := ∃ v0 v1 : Value, cs = [v0, v1] ∧ Rd3 w [v0] ∧ Rd3 w [v1]
set_option maxRecDepth 100000 in
theorem rd53 (h : DataW.trod enc Try.prog w 0 (fun _ => true) true fuel 53 cs = some x) : Rd53 w cs := by
  obtain ⟨xs, n, _, _, hlen, hxl, hf⟩ := DataW.trod_struct Try.underlying53 h
  rw [show Try.prog.cellsOf 53 = 2 by kernel_rfl] at hlen
  match cs, hlen with
  | [v0, v1], _ =>
    obtain ⟨_, f0⟩ := fld (hf 0 _ rfl) (T := 3) (off := 0) (c := 1) rfl rfl (by kernel_rfl) (by rw [hxl]; decide)
    obtain ⟨_, f1⟩ := fld (hf 1 _ rfl) (T := 3) (off := 1) (c := 1) rfl rfl (by kernel_rfl) (by rw [hxl]; decide)
    exact ⟨v0, v1, rfl, rd3 f0, rd3 f1⟩
def Rd48 (w : World) (cs : List Value) : Prop := cs = [.slice none 0 0] ∨ ∃ (a : Addr) (len cap : Nat), cs = [.slice (some a) len cap] ∧ len ≤ cap ∧ cap ≤ maxLen ∧ ∀ i, i < cap → ∃ cs' : List Value, cs'.length = 2 ∧ (∀ j, j < 2 → w.cell? (a.add (i * 2 + j)) = cs'[j]?) ∧ Rd53 w cs'
set_option maxRecDepth 100000 in
theorem rd48 (h : DataW.trod enc Try.prog w 0 (fun _ => true) true fuel 48 cs = some x) : Rd48 w cs := by
  have hC : Try.prog.cellsOf 53 = 2 := by kernel_rfl
  rcases open_slice Try.underlying48 h with ⟨h0, _⟩ | ⟨a, len, cap, m, n, D, Pl, hcs, _, hl, hm, hmm, _, hi⟩
  · exact .inl h0
  · rw [if_pos rfl] at hmm
    subst hmm
    refine .inr ⟨a, len, m, hcs, hl, hm, fun i hi' => ?_⟩
    obtain ⟨cs', hc, ht'⟩ := hi i hi'
    rw [hC] at hc
    obtain ⟨_, hcl, hat⟩ := World.cells?_some hc
    exact ⟨cs', hcl, fun j hj => by rw [← Go.Deep.add_add]; exact hat j hj, rd53 ht'⟩
end
end Go.Proofs.Ytigoeaidlgofoaa
