/- What a walk is told of the arguments of a law, type by type (printed by wip/read.py). -/
import Derived.Test.YtbeikfopneeodaaGreatProg
import Derived.WalkKit
import Derived.ProofKit
import Derived.OpenShut
import Derived.Deep.Slices
import Derived.Deep.Fields
import Derived.ChangeSame
import Derived.KernelRfl
namespace Go.Proofs.YtbeikfopneeodaaGreat
open Go.ChangeShapes Go.WideShapes Go.Deep Go.RowKit
section
variable {H : Type} {enc : TypeId × Value → H} {w : World} {fuel : Nat} {cs : List Value} {x : DataW H × List MemPlace}
theorem fld {n j T off c : Nat} {f : Field} {xs : List (DataW H × List MemPlace)}
    (hf : DataW.trod enc Tryz.prog w 0 (fun _ => true) true n f.type ((cs.drop f.offset).take (Tryz.prog.cellsOf f.type)) = xs[j]?) (ht : f.type = T) (ho : f.offset = off) (hc : Tryz.prog.cellsOf T = c) (hj : j < xs.length) :
    ∃ y, DataW.trod enc Tryz.prog w 0 (fun _ => true) true n T ((cs.drop off).take c) = some y := by
  subst ht ho
  rw [hc] at hf
  exact ⟨_, hf.trans (List.getElem?_eq_getElem hj)⟩
def Rd3 (_ : World) (cs : List Value) : Prop := ∃ n : Int, cs = [.int .i64 n] ∧ (Lit.int .i64 n).wf = true
theorem rd3 (h : DataW.trod enc Tryz.prog w 0 (fun _ => true) true fuel 3 cs = some x) : Rd3 w cs := by
  obtain ⟨n, h1, _, h2⟩ := DataW.trod_int Tryz.underlying3 h
  exact ⟨n, h1, h2⟩
def Rd4 (_ : World) (cs : List Value) : Prop := ∃ b : Bool, cs = [.bool b]
theorem rd4 (h : DataW.trod enc Tryz.prog w 0 (fun _ => true) true fuel 4 cs = some x) : Rd4 w cs := by
  obtain ⟨n, h1, _⟩ := DataW.trod_bool Tryz.underlying4 h
  exact ⟨n, h1⟩
def Rd22 (w : World) (cs : List Value) : Prop := cs = [.slice none 0 0] ∨ ∃ (a : Addr) (len cap : Nat), cs = [.slice (some a) len cap] ∧ len ≤ cap ∧ cap ≤ maxLen ∧ ∀ i, i < cap → ∃ cs' : List Value, cs'.length = 1 ∧ (∀ j, j < 1 → w.cell? (a.add (i * 1 + j)) = cs'[j]?) ∧ Rd3 w cs'
set_option maxRecDepth 100000 in
theorem rd22 (h : DataW.trod enc Tryz.prog w 0 (fun _ => true) true fuel 22 cs = some x) : Rd22 w cs := by
  have hC : Tryz.prog.cellsOf 3 = 1 := by kernel_rfl
  rcases open_slice Tryz.underlying22 h with ⟨h0, _⟩ | ⟨a, len, cap, m, n, D, Pl, hcs, _, hl, hm, hmm, _, hi⟩
  · exact .inl h0
  · rw [if_pos rfl] at hmm
    subst hmm
    refine .inr ⟨a, len, m, hcs, hl, hm, fun i hi' => ?_⟩
    obtain ⟨cs', hc, ht'⟩ := hi i hi'
    rw [hC] at hc
    obtain ⟨_, hcl, hat⟩ := World.cells?_some hc
    exact ⟨cs', hcl, fun j hj => by rw [← Go.Deep.add_add]; exact hat j hj, rd3 ht'⟩
end
end Go.Proofs.YtbeikfopneeodaaGreat
