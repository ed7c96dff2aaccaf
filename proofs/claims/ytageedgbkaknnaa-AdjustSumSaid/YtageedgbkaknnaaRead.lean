/- What a walk is told of the arguments of a law, type by type (printed by wip/read.py). -/
import Derived.Test.YtageedgbkaknnaaProg
import Derived.WalkKit
import Derived.ProofKit
import Derived.OpenShut
import Derived.Deep.Slices
import Derived.Deep.Fields
import Derived.ChangeSame
import Derived.KernelRfl
namespace Go.Proofs.Ytageedgbkaknnaa
open Go.ChangeShapes Go.WideShapes Go.Deep Go.RowKit
section
variable {H : Type} {enc : TypeId × Value → H} {w : World} {fuel : Nat} {cs : List Value} {x : DataW H × List MemPlace}
theorem fld {n j T off c : Nat} {f : Field} {xs : List (DataW H × List MemPlace)}
    (hf : DataW.trod enc Try.prog w 0 (fun _ => true) true n f.type ((cs.drop f.offset).take (Try.prog.cellsOf f.type)) = xs[j]?) (ht : f.type = T) (ho : f.offset = off) (hc : Try.prog.cellsOf T = c) (hj : j < xs.length) :
    ∃ y, DataW.trod enc Try.prog w 0 (fun _ => true) true n T ((cs.drop off).take c) = some y := by
  subst ht ho
  rw [hc] at hf
  exact ⟨_, hf.trans (List.getElem?_eq_getElem hj)⟩
def Rd3 (_ : World) (cs : List Value) : Prop := ∃ n : Int, cs = [.int .i64 n] ∧ (Lit.int .i64 n).wf = true
theorem rd3 (h : DataW.trod enc Try.prog w 0 (fun _ => true) true fuel 3 cs = some x) : Rd3 w cs := by
  obtain ⟨n, h1, _, h2⟩ := DataW.trod_int Try.underlying3 h
  exact ⟨n, h1, h2⟩
def Rd4 (_ : World) (cs : List Value) : Prop := ∃ b : Bool, cs = [.bool b]
theorem rd4 (h : DataW.trod enc Try.prog w 0 (fun _ => true) true fuel 4 cs = some x) : Rd4 w cs := by
  obtain ⟨n, h1, _⟩ := DataW.trod_bool Try.underlying4 h
  exact ⟨n, h1⟩
def Rd5 (_ : World) (cs : List Value) : Prop := ∃ n : Int, cs = [.int .u8 n] ∧ (Lit.int .u8 n).wf = true
theorem rd5 (h : DataW.trod enc Try.prog w 0 (fun _ => true) true fuel 5 cs = some x) : Rd5 w cs := by
  obtain ⟨n, h1, _, h2⟩ := DataW.trod_int Try.underlying5 h
  exact ⟨n, h1, h2⟩
def Rd23 (w : World) (cs : List Value) : Prop := ∃ v0 v1 v2 v3 v4 v5 : Value, cs = [v0, v1, v2, v3, v4, v5] ∧ Rd3 w [v0] ∧ Rd3 w [v1] ∧ Rd3 w [v2] ∧ Rd3 w [v3] ∧ Rd3 w [v4] ∧ Rd4 w [v5]
set_option maxRecDepth 100000 in
theorem rd23 (h : DataW.trod enc Try.prog w 0 (fun _ => true) true fuel 23 cs = some x) : Rd23 w cs := by
  obtain ⟨xs, n, _, _, hlen, hxl, hf⟩ := DataW.trod_struct Try.underlying23 h
  rw [show Try.prog.cellsOf 23 = 6 by kernel_rfl] at hlen
  match cs, hlen with
  | [v0, v1, v2, v3, v4, v5], _ =>
    obtain ⟨_, f0⟩ := fld (hf 0 _ rfl) (T := 3) (off := 0) (c := 1) rfl rfl (by kernel_rfl) (by rw [hxl]; decide)
    obtain ⟨_, f1⟩ := fld (hf 1 _ rfl) (T := 3) (off := 1) (c := 1) rfl rfl (by kernel_rfl) (by rw [hxl]; decide)
    obtain ⟨_, f2⟩ := fld (hf 2 _ rfl) (T := 3) (off := 2) (c := 1) rfl rfl (by kernel_rfl) (by rw [hxl]; decide)
    obtain ⟨_, f3⟩ := fld (hf 3 _ rfl) (T := 3) (off := 3) (c := 1) rfl rfl (by kernel_rfl) (by rw [hxl]; decide)
    obtain ⟨_, f4⟩ := fld (hf 4 _ rfl) (T := 3) (off := 4) (c := 1) rfl rfl (by kernel_rfl) (by rw [hxl]; decide)
    obtain ⟨_, f5⟩ := fld (hf 5 _ rfl) (T := 4) (off := 5) (c := 1) rfl rfl (by kernel_rfl) (by rw [hxl]; decide)
    exact ⟨v0, v1, v2, v3, v4, v5, rfl, rd3 f0, rd3 f1, rd3 f2, rd3 f3, rd3 f4, rd4 f5⟩
def Rd24 (w : World) (cs : List Value) : Prop := cs = [.slice none 0 0] ∨ ∃ (a : Addr) (len cap : Nat), cs = [.slice (some a) len cap] ∧ len ≤ cap ∧ cap ≤ maxLen ∧ ∀ i, i < cap → ∃ cs' : List Value, cs'.length = 1 ∧ (∀ j, j < 1 → w.cell? (a.add (i * 1 + j)) = cs'[j]?) ∧ Rd3 w cs'
set_option maxRecDepth 100000 in
theorem rd24 (h : DataW.trod enc Try.prog w 0 (fun _ => true) true fuel 24 cs = some x) : Rd24 w cs := by
  have hC : Try.prog.cellsOf 3 = 1 := by kernel_rfl
  rcases open_slice Try.underlying24 h with ⟨h0, _⟩ | ⟨a, len, cap, m, n, D, Pl, hcs, _, hl, hm, hmm, _, hi⟩
  · exact .inl h0
  · rw [if_pos rfl] at hmm
    subst hmm
    refine .inr ⟨a, len, m, hcs, hl, hm, fun i hi' => ?_⟩
    obtain ⟨cs', hc, ht'⟩ := hi i hi'
    rw [hC] at hc
    obtain ⟨_, hcl, hat⟩ := World.cells?_some hc
    exact ⟨cs', hcl, fun j hj => by rw [← Go.Deep.add_add]; exact hat j hj, rd3 ht'⟩
def Rd26 (w : World) (cs : List Value) : Prop := ∃ v0 v1 v2 v3 : Value, cs = [v0, v1, v2, v3] ∧ Rd24 w [v0] ∧ Rd3 w [v1] ∧ Rd3 w [v2] ∧ Rd3 w [v3]
set_option maxRecDepth 100000 in
theorem rd26 (h : DataW.trod enc Try.prog w 0 (fun _ => true) true fuel 26 cs = some x) : Rd26 w cs := by
  obtain ⟨xs, n, _, _, hlen, hxl, hf⟩ := DataW.trod_struct Try.underlying26 h
  rw [show Try.prog.cellsOf 26 = 4 by kernel_rfl] at hlen
  match cs, hlen with
  | [v0, v1, v2, v3], _ =>
    obtain ⟨_, f0⟩ := fld (hf 0 _ rfl) (T := 24) (off := 0) (c := 1) rfl rfl (by kernel_rfl) (by rw [hxl]; decide)
    obtain ⟨_, f1⟩ := fld (hf 1 _ rfl) (T := 3) (off := 1) (c := 1) rfl rfl (by kernel_rfl) (by rw [hxl]; decide)
    obtain ⟨_, f2⟩ := fld (hf 2 _ rfl) (T := 3) (off := 2) (c := 1) rfl rfl (by kernel_rfl) (by rw [hxl]; decide)
    obtain ⟨_, f3⟩ := fld (hf 3 _ rfl) (T := 3) (off := 3) (c := 1) rfl rfl (by kernel_rfl) (by rw [hxl]; decide)
    exact ⟨v0, v1, v2, v3, rfl, rd24 f0, rd3 f1, rd3 f2, rd3 f3⟩
def Rd28 (w : World) (cs : List Value) : Prop := ∃ v0 v1 v2 v3 v4 v5 v6 v7 v8 : Value, cs = [v0, v1, v2, v3, v4, v5, v6, v7, v8] ∧ Rd3 w [v0] ∧ Rd3 w [v1] ∧ Rd3 w [v2] ∧ Rd3 w [v3] ∧ Rd3 w [v4] ∧ Rd3 w [v5] ∧ Rd3 w [v6] ∧ Rd3 w [v7] ∧ Rd3 w [v8]
set_option maxRecDepth 100000 in
theorem rd28 (h : DataW.trod enc Try.prog w 0 (fun _ => true) true fuel 28 cs = some x) : Rd28 w cs := by
  obtain ⟨xs, n, _, _, hlen, hxl, hf⟩ := DataW.trod_struct Try.underlying28 h
  rw [show Try.prog.cellsOf 28 = 9 by kernel_rfl] at hlen
  match cs, hlen with
  | [v0, v1, v2, v3, v4, v5, v6, v7, v8], _ =>
    obtain ⟨_, f0⟩ := fld (hf 0 _ rfl) (T := 3) (off := 0) (c := 1) rfl rfl (by kernel_rfl) (by rw [hxl]; decide)
    obtain ⟨_, f1⟩ := fld (hf 1 _ rfl) (T := 3) (off := 1) (c := 1) rfl rfl (by kernel_rfl) (by rw [hxl]; decide)
    obtain ⟨_, f2⟩ := fld (hf 2 _ rfl) (T := 3) (off := 2) (c := 1) rfl rfl (by kernel_rfl) (by rw [hxl]; decide)
    obtain ⟨_, f3⟩ := fld (hf 3 _ rfl) (T := 3) (off := 3) (c := 1) rfl rfl (by kernel_rfl) (by rw [hxl]; decide)
    obtain ⟨_, f4⟩ := fld (hf 4 _ rfl) (T := 3) (off := 4) (c := 1) rfl rfl (by kernel_rfl) (by rw [hxl]; decide)
    obtain ⟨_, f5⟩ := fld (hf 5 _ rfl) (T := 3) (off := 5) (c := 1) rfl rfl (by kernel_rfl) (by rw [hxl]; decide)
    obtain ⟨_, f6⟩ := fld (hf 6 _ rfl) (T := 3) (off := 6) (c := 1) rfl rfl (by kernel_rfl) (by rw [hxl]; decide)
    obtain ⟨_, f7⟩ := fld (hf 7 _ rfl) (T := 3) (off := 7) (c := 1) rfl rfl (by kernel_rfl) (by rw [hxl]; decide)
    obtain ⟨_, f8⟩ := fld (hf 8 _ rfl) (T := 3) (off := 8) (c := 1) rfl rfl (by kernel_rfl) (by rw [hxl]; decide)
    exact ⟨v0, v1, v2, v3, v4, v5, v6, v7, v8, rfl, rd3 f0, rd3 f1, rd3 f2, rd3 f3, rd3 f4, rd3 f5, rd3 f6, rd3 f7, rd3 f8⟩
def Rd42 (w : World) (cs : List Value) : Prop := cs = [.slice none 0 0] ∨ ∃ (a : Addr) (len cap : Nat), cs = [.slice (some a) len cap] ∧ len ≤ cap ∧ cap ≤ maxLen ∧ ∀ i, i < cap → ∃ cs' : List Value, cs'.length = 9 ∧ (∀ j, j < 9 → w.cell? (a.add (i * 9 + j)) = cs'[j]?) ∧ Rd28 w cs'
set_option maxRecDepth 100000 in
theorem rd42 (h : DataW.trod enc Try.prog w 0 (fun _ => true) true fuel 42 cs = some x) : Rd42 w cs := by
  have hC : Try.prog.cellsOf 28 = 9 := by kernel_rfl
  rcases open_slice Try.underlying42 h with ⟨h0, _⟩ | ⟨a, len, cap, m, n, D, Pl, hcs, _, hl, hm, hmm, _, hi⟩
  · exact .inl h0
  · rw [if_pos rfl] at hmm
    subst hmm
    refine .inr ⟨a, len, m, hcs, hl, hm, fun i hi' => ?_⟩
    obtain ⟨cs', hc, ht'⟩ := hi i hi'
    rw [hC] at hc
    obtain ⟨_, hcl, hat⟩ := World.cells?_some hc
    exact ⟨cs', hcl, fun j hj => by rw [← Go.Deep.add_add]; exact hat j hj, rd28 ht'⟩
def Rd43 (w : World) (cs : List Value) : Prop := cs = [.slice none 0 0] ∨ ∃ (a : Addr) (len cap : Nat), cs = [.slice (some a) len cap] ∧ len ≤ cap ∧ cap ≤ maxLen ∧ ∀ i, i < cap → ∃ cs' : List Value, cs'.length = 1 ∧ (∀ j, j < 1 → w.cell? (a.add (i * 1 + j)) = cs'[j]?) ∧ Rd24 w cs'
set_option maxRecDepth 100000 in
theorem rd43 (h : DataW.trod enc Try.prog w 0 (fun _ => true) true fuel 43 cs = some x) : Rd43 w cs := by
  have hC : Try.prog.cellsOf 24 = 1 := by kernel_rfl
  rcases open_slice Try.underlying43 h with ⟨h0, _⟩ | ⟨a, len, cap, m, n, D, Pl, hcs, _, hl, hm, hmm, _, hi⟩
  · exact .inl h0
  · rw [if_pos rfl] at hmm
    subst hmm
    refine .inr ⟨a, len, m, hcs, hl, hm, fun i hi' => ?_⟩
    obtain ⟨cs', hc, ht'⟩ := hi i hi'
    rw [hC] at hc
    obtain ⟨_, hcl, hat⟩ := World.cells?_some hc
    exact ⟨cs', hcl, fun j hj => by rw [← Go.Deep.add_add]; exact hat j hj, rd24 ht'⟩
end
end Go.Proofs.Ytageedgbkaknnaa
