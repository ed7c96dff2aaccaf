/- What a walk is told of the arguments of a law, type by type (printed by wip/read.py). -/
import Derived.Test.YtlmgfcgakdanaaaProg
import Derived.WalkKit
import Derived.ProofKit
import Derived.OpenShut
import Derived.Deep.Slices
import Derived.Deep.Fields
import Derived.ChangeSame
import Derived.KernelRfl
namespace Go.Proofs.Ytlmgfcgakdanaaa
open Go.ChangeShapes Go.WideShapes Go.Deep Go.RowKit
section
variable {H : Type} {enc : TypeId × Value → H} {w : World} {fuel : Nat} {cs : List Value} {x : DataW H × List MemPlace}
theorem fld {n j T off c : Nat} {f : Field} {xs : List (DataW H × List MemPlace)}
    (hf : DataW.trod enc Try.prog w 0 (fun _ => true) true n f.type ((cs.drop f.offset).take (Try.prog.cellsOf f.type)) = xs[j]?) (ht : f.type = T) (ho : f.offset = off) (hc : Try.prog.cellsOf T = c) (hj : j < xs.length) :
    ∃ y, DataW.trod enc Try.prog w 0 (fun _ => true) true n T ((cs.drop off).take c) = some y := by
  subst ht ho
  rw [hc] at hf
  exact ⟨_, hf.trans (List.getElem?_eq_getElem hj)⟩
def Rd3 (_ : World) (cs : List Value) : Prop := ∃ n : Int, cs = [.int .i64 n] ∧ (Lit.int .i64 n).wf = true
theorem rd3 (h : DataW.trod enc Try.prog w 0 (fun _ => true) true fuel 3 cs = some x) : Rd3 w cs := by
  obtain ⟨n, h1, _, h2⟩ := DataW.trod_int Try.underlying3 h
  exact ⟨n, h1, h2⟩
def Rd4 (_ : World) (cs : List Value) : Prop := ∃ b : Bool, cs = [.bool b]
theorem rd4 (h : DataW.trod enc Try.prog w 0 (fun _ => true) true fuel 4 cs = some x) : Rd4 w cs := by
  obtain ⟨n, h1, _⟩ := DataW.trod_bool Try.underlying4 h
  exact ⟨n, h1⟩
def Rd23 (w : World) (cs : List Value) : Prop := ∃ v0 v1 : Value, cs = [v0, v1] ∧ Rd3 w [v0] ∧ Rd3 w [v1]
set_option maxRecDepth 100000 in
theorem rd23 (h : DataW.trod enc Try.prog w 0 (fun _ => true) true fuel 23 cs = some x) : Rd23 w cs := by
  obtain ⟨xs, n, _, _, hlen, hxl, hf⟩ := DataW.trod_struct Try.underlying23 h
  rw [show Try.prog.cellsOf 23 = 2 by kernel_rfl] at hlen
  match cs, hlen with
  | [v0, v1], _ =>
    obtain ⟨_, f0⟩ := fld (hf 0 _ rfl) (T := 3) (off := 0) (c := 1) rfl rfl (by kernel_rfl) (by rw [hxl]; decide)
    obtain ⟨_, f1⟩ := fld (hf 1 _ rfl) (T := 3) (off := 1) (c := 1) rfl rfl (by kernel_rfl) (by rw [hxl]; decide)
    exact ⟨v0, v1, rfl, rd3 f0, rd3 f1⟩
def Rd24 (w : World) (cs : List Value) : Prop := cs = [.slice none 0 0] ∨ ∃ (a : Addr) (len cap : Nat), cs = [.slice (some a) len cap] ∧ len ≤ cap ∧ cap ≤ maxLen ∧ ∀ i, i < cap → ∃ cs' : List Value, cs'.length = 1 ∧ (∀ j, j < 1 → w.cell? (a.add (i * 1 + j)) = cs'[j]?) ∧ Rd3 w cs'
set_option maxRecDepth 100000 in
theorem rd24 (h : DataW.trod enc Try.prog w 0 (fun _ => true) true fuel 24 cs = some x) : Rd24 w cs := by
  have hC : Try.prog.cellsOf 3 = 1 := by kernel_rfl
  rcases open_slice Try.underlying24 h with ⟨h0, _⟩ | ⟨a, len, cap, m, n, D, Pl, hcs, _, hl, hm, hmm, _, hi⟩
  · exact .inl h0
  · rw [if_pos rfl] at hmm
    subst hmm
    refine .inr ⟨a, len, m, hcs, hl, hm, fun i hi' => ?_⟩
    obtain ⟨cs', hc, ht'⟩ := hi i hi'
    rw [hC] at hc
    obtain ⟨_, hcl, hat⟩ := World.cells?_some hc
    exact ⟨cs', hcl, fun j hj => by rw [← Go.Deep.add_add]; exact hat j hj, rd3 ht'⟩
def Rd75 (w : World) (cs : List Value) : Prop := ∃ v0 v1 : Value, cs = [v0, v1] ∧ Rd3 w [v0] ∧ Rd3 w [v1]
set_option maxRecDepth 100000 in
theorem rd75 (h : DataW.trod enc Try.prog w 0 (fun _ => true) true fuel 75 cs = some x) : Rd75 w cs := by
  obtain ⟨xs, n, _, _, hlen, hxl, hf⟩ := DataW.trod_struct Try.underlying75 h
  rw [show Try.prog.cellsOf 75 = 2 by kernel_rfl] at hlen
  match cs, hlen with
  | [v0, v1], _ =>
    obtain ⟨_, f0⟩ := fld (hf 0 _ rfl) (T := 3) (off := 0) (c := 1) rfl rfl (by kernel_rfl) (by rw [hxl]; decide)
    obtain ⟨_, f1⟩ := fld (hf 1 _ rfl) (T := 3) (off := 1) (c := 1) rfl rfl (by kernel_rfl) (by rw [hxl]; decide)
    exact ⟨v0, v1, rfl, rd3 f0, rd3 f1⟩
def Rd25 (w : World) (cs : List Value) : Prop := cs = [.slice none 0 0] ∨ ∃ (a : Addr) (len cap : Nat), cs = [.slice (some a) len cap] ∧ len ≤ cap ∧ cap ≤ maxLen ∧ ∀ i, i < cap → ∃ cs' : List Value, cs'.length = 2 ∧ (∀ j, j < 2 → w.cell? (a.add (i * 2 + j)) = cs'[j]?) ∧ Rd75 w cs'
set_option maxRecDepth 100000 in
theorem rd25 (h : DataW.trod enc Try.prog w 0 (fun _ => true) true fuel 25 cs = some x) : Rd25 w cs := by
  have hC : Try.prog.cellsOf 75 = 2 := by kernel_rfl
  rcases open_slice Try.underlying25 h with ⟨h0, _⟩ | ⟨a, len, cap, m, n, D, Pl, hcs, _, hl, hm, hmm, _, hi⟩
  · exact .inl h0
  · rw [if_pos rfl] at hmm
    subst hmm
    refine .inr ⟨a, len, m, hcs, hl, hm, fun i hi' => ?_⟩
    obtain ⟨cs', hc, ht'⟩ := hi i hi'
    rw [hC] at hc
    obtain ⟨_, hcl, hat⟩ := World.cells?_some hc
    exact ⟨cs', hcl, fun j hj => by rw [← Go.Deep.add_add]; exact hat j hj, rd75 ht'⟩
def Rd27 (w : World) (cs : List Value) : Prop := ∃ v0 v1 v2 v3 v4 v5 v6 v7 v8 v9 v10 v11 v12 v13 v14 v15 v16 v17 v18 v19 v20 : Value, cs = [v0, v1, v2, v3, v4, v5, v6, v7, v8, v9, v10, v11, v12, v13, v14, v15, v16, v17, v18, v19, v20] ∧ Rd3 w [v0] ∧ Rd3 w [v1] ∧ Rd23 w [v2, v3] ∧ Rd24 w [v4] ∧ Rd24 w [v5] ∧ Rd3 w [v6] ∧ Rd3 w [v7] ∧ Rd3 w [v8] ∧ Rd3 w [v9] ∧ Rd3 w [v10] ∧ Rd3 w [v11] ∧ Rd3 w [v12] ∧ Rd3 w [v13] ∧ Rd3 w [v14] ∧ Rd3 w [v15] ∧ Rd24 w [v16] ∧ Rd4 w [v17] ∧ Rd3 w [v18] ∧ Rd24 w [v19] ∧ Rd25 w [v20]
set_option maxRecDepth 100000 in
theorem rd27 (h : DataW.trod enc Try.prog w 0 (fun _ => true) true fuel 27 cs = some x) : Rd27 w cs := by
  obtain ⟨xs, n, _, _, hlen, hxl, hf⟩ := DataW.trod_struct Try.underlying27 h
  rw [show Try.prog.cellsOf 27 = 21 by kernel_rfl] at hlen
  match cs, hlen with
  | [v0, v1, v2, v3, v4, v5, v6, v7, v8, v9, v10, v11, v12, v13, v14, v15, v16, v17, v18, v19, v20], _ =>
    obtain ⟨_, f0⟩ := fld (hf 0 _ rfl) (T := 3) (off := 0) (c := 1) rfl rfl (by kernel_rfl) (by rw [hxl]; decide)
    obtain ⟨_, f1⟩ := fld (hf 1 _ rfl) (T := 3) (off := 1) (c := 1) rfl rfl (by kernel_rfl) (by rw [hxl]; decide)
    obtain ⟨_, f2⟩ := fld (hf 2 _ rfl) (T := 23) (off := 2) (c := 2) rfl rfl (by kernel_rfl) (by rw [hxl]; decide)
    obtain ⟨_, f3⟩ := fld (hf 3 _ rfl) (T := 24) (off := 4) (c := 1) rfl rfl (by kernel_rfl) (by rw [hxl]; decide)
    obtain ⟨_, f4⟩ := fld (hf 4 _ rfl) (T := 24) (off := 5) (c := 1) rfl rfl (by kernel_rfl) (by rw [hxl]; decide)
    obtain ⟨_, f5⟩ := fld (hf 5 _ rfl) (T := 3) (off := 6) (c := 1) rfl rfl (by kernel_rfl) (by rw [hxl]; decide)
    obtain ⟨_, f6⟩ := fld (hf 6 _ rfl) (T := 3) (off := 7) (c := 1) rfl rfl (by kernel_rfl) (by rw [hxl]; decide)
    obtain ⟨_, f7⟩ := fld (hf 7 _ rfl) (T := 3) (off := 8) (c := 1) rfl rfl (by kernel_rfl) (by rw [hxl]; decide)
    obtain ⟨_, f8⟩ := fld (hf 8 _ rfl) (T := 3) (off := 9) (c := 1) rfl rfl (by kernel_rfl) (by rw [hxl]; decide)
    obtain ⟨_, f9⟩ := fld (hf 9 _ rfl) (T := 3) (off := 10) (c := 1) rfl rfl (by kernel_rfl) (by rw [hxl]; decide)
    obtain ⟨_, f10⟩ := fld (hf 10 _ rfl) (T := 3) (off := 11) (c := 1) rfl rfl (by kernel_rfl) (by rw [hxl]; decide)
    obtain ⟨_, f11⟩ := fld (hf 11 _ rfl) (T := 3) (off := 12) (c := 1) rfl rfl (by kernel_rfl) (by rw [hxl]; decide)
    obtain ⟨_, f12⟩ := fld (hf 12 _ rfl) (T := 3) (off := 13) (c := 1) rfl rfl (by kernel_rfl) (by rw [hxl]; decide)
    obtain ⟨_, f13⟩ := fld (hf 13 _ rfl) (T := 3) (off := 14) (c := 1) rfl rfl (by kernel_rfl) (by rw [hxl]; decide)
    obtain ⟨_, f14⟩ := fld (hf 14 _ rfl) (T := 3) (off := 15) (c := 1) rfl rfl (by kernel_rfl) (by rw [hxl]; decide)
    obtain ⟨_, f15⟩ := fld (hf 15 _ rfl) (T := 24) (off := 16) (c := 1) rfl rfl (by kernel_rfl) (by rw [hxl]; decide)
    obtain ⟨_, f16⟩ := fld (hf 16 _ rfl) (T := 4) (off := 17) (c := 1) rfl rfl (by kernel_rfl) (by rw [hxl]; decide)
    obtain ⟨_, f17⟩ := fld (hf 17 _ rfl) (T := 3) (off := 18) (c := 1) rfl rfl (by kernel_rfl) (by rw [hxl]; decide)
    obtain ⟨_, f18⟩ := fld (hf 18 _ rfl) (T := 24) (off := 19) (c := 1) rfl rfl (by kernel_rfl) (by rw [hxl]; decide)
    obtain ⟨_, f19⟩ := fld (hf 19 _ rfl) (T := 25) (off := 20) (c := 1) rfl rfl (by kernel_rfl) (by rw [hxl]; decide)
    exact ⟨v0, v1, v2, v3, v4, v5, v6, v7, v8, v9, v10, v11, v12, v13, v14, v15, v16, v17, v18, v19, v20, rfl, rd3 f0, rd3 f1, rd23 f2, rd24 f3, rd24 f4, rd3 f5, rd3 f6, rd3 f7, rd3 f8, rd3 f9, rd3 f10, rd3 f11, rd3 f12, rd3 f13, rd3 f14, rd24 f15, rd4 f16, rd3 f17, rd24 f18, rd25 f19⟩
def Rd51 (_ : World) (cs : List Value) : Prop := ∃ n : Int, cs = [.int .u32 n] ∧ (Lit.int .u32 n).wf = true
theorem rd51 (h : DataW.trod enc Try.prog w 0 (fun _ => true) true fuel 51 cs = some x) : Rd51 w cs := by
  obtain ⟨n, h1, _, h2⟩ := DataW.trod_int Try.underlying51 h
  exact ⟨n, h1, h2⟩
end
end Go.Proofs.Ytlmgfcgakdanaaa
