/- The order of the events: what the law ReinstateOrder needs beyond the sums. -/
import Derived.Test.YtlmgfcgakdanaaaLwP
import Derived.Test.YtlmgfcgakdanaaaOrdA
namespace Go.Proofs.Ytlmgfcgakdanaaa
open Go.RowKit
set_option linter.unusedVariables false

theorem RnSt.over {w W W' : World} {T B : Nat} {t : Ty} (h : RnSt w T t W) (hb : Below B W W') (hT : T < B) : RnSt w T t W' :=
  have h1 := h.wT
  ⟨h.box.below hb hT, h.ins.below (hb.mono (Nat.le_of_lt hT)), h.below.trans (hb.mono (by omega)), h.wT⟩
theorem psum_sum (f : Nat → Int) : ∀ n, Ex.psum f n = Xn.sum f n := fun n => by
  induction n with
  | zero => rfl
  | succ n ih => rw [Ex.psum, Xn.sum, ih]
theorem Xn.Perm.psum {P : Nat → Int} {n : Nat} (h : Xn.Perm P n) (f : Nat → Int) : Ex.psum (fun j => f (P j).toNat) n = Ex.psum f n := by
  rw [psum_sum, psum_sum]
  exact h.sm fun x => f x.toNat

/-- the first k of a row are told -/
def Got (p : Nat → Value) (f : Nat → Int) (k : Nat) : Prop := ∀ q, q < k → p q = .int .i64 (f q)
theorem Got.step {p : Nat → Value} {f : Nat → Int} {k : Nat} {x : Int} (h : Got p f k) (hx : f k = x) : Got (fun i => if i = k then .int .i64 x else p i) f (k + 1) := fun q hq => by
  by_cases e : q = k
  · subst e
    simp [hx]
  · simp only [if_neg e]
    exact h q (by omega)
theorem Got.nums {p : Nat → Value} {f : Nat → Int} {n g : Nat} {w : World} {t : TypeId} (h : Got p f n) (hr : Row w g n t p) : Nums w w.heap.size (some ⟨g, 0, none⟩) n f := Cells.congr hr.cells h

/-- what stands ahead of the second deck, block b -/
structure OrdSt (w : World) (T : Nat) (t : Ty) (b gh gl g m : Nat) (eh el : Nat → Int) (U : Nat → T3) (W : World) : Prop where
  st : RnSt w T t W
  hT : T < b
  n1 : Nums W b (some ⟨gh, 0, none⟩) m eh
  n2 : Nums W b (some ⟨gl, 0, none⟩) m el
  tr : Trips W b (some ⟨g, 0, none⟩) m U
theorem OrdSt.over {w W W' : World} {T b B gh gl g m : Nat} {t : Ty} {eh el : Nat → Int} {U : Nat → T3} (h : OrdSt w T t b gh gl g m eh el U W) (hb : Below B W W') (hB : b ≤ B) : OrdSt w T t b gh gl g m eh el U W' :=
  ⟨h.st.over (hb.mono hB) h.hT, h.hT, h.n1.below (hb.mono hB), h.n2.below (hb.mono hB), h.tr.below (hb.mono hB)⟩

section
variable {t : Ty} {n : Nat} {h l h' l' : Nat → Int}
theorem Ty.att_same (e : Ex.psum l' n = Ex.psum l n) : t.att l' n = t.att l n := by
  unfold Ty.att Rn.at'
  rw [e]
/-- two orders of the same events -/
theorem Ty.order_same (hx : t.xerr = 0) (hl : ∀ i, i < n → 0 ≤ l i) (hl' : ∀ i, i < n → 0 ≤ l' i) (e : Ex.psum l' n = Ex.psum l n) :
    Ex.psum (fun i => (t.uses h' l' i).a) n = Ex.psum (fun i => (t.uses h l i).a) n ∧ Ex.psum (fun i => (t.uses h' l' i).b) n = Ex.psum (fun i => (t.uses h l i).b) n ∧
    (t.timed = false → Ex.psum (fun i => (t.uses h' l' i).c) n = Ex.psum (fun i => (t.uses h l i).c) n) := by
  have ea := Ty.att_same (t := t) e
  refine ⟨?_, ?_, fun ht => ?_⟩
  · rw [Ty.sum_a hx, Ty.sum_a hx, ea]
  · rw [Ty.sum_b hx, Ty.sum_b hx, ea]
  · rw [(Ty.sum_c hx hl' (Nat.le_refl n)).2.2 ht, (Ty.sum_c hx hl (Nat.le_refl n)).2.2 ht, ea]
/-- the three sums never leave the integers -/
theorem Ty.part_bounds (hx : t.xerr = 0) (hl : ∀ i, i < n → 0 ≤ l i) {k : Nat} (hk : k ≤ n) :
    (0 ≤ Ex.psum (fun i => (t.uses h l i).a) k ∧ Ex.psum (fun i => (t.uses h l i).a) k ≤ 17592186044416) ∧ (0 ≤ Ex.psum (fun i => (t.uses h l i).b) k ∧ Ex.psum (fun i => (t.uses h l i).b) k ≤ 17592186044416) ∧
    (0 ≤ Ex.psum (fun i => (t.uses h l i).c) k ∧ Ex.psum (fun i => (t.uses h l i).c) k ≤ 17592186044416) := by
  have h1 := Ty.att_bound (t := t) (l := l) k
  have h2 := Ty.once_bound hx
  have h3 := Ty.sum_c (h := h) hx hl hk
  have h4 := Rn.price_bound8 (Ty.fit hx) (t.att l k)
  rw [Ty.sum_a hx, Ty.sum_b hx]
  omega
end

/-- two new blocks -/
theorem Below.two (w : World) (o p : Obj) : Below w.heap.size w ((w.alloc o).alloc p) := ((Below.refl _ _).alloc (Nat.le_refl _) o).alloc (by simp) p
/-- three numbers in a block -/
theorem Has.p0 {w : World} {b : Nat} {x0 x1 x2 y : Value} {t : TypeId} (h : Has w b #[x0, x1, x2] t) : Has (w.setCell ⟨b, 0, none⟩ y) b #[y, x1, x2] t := h.put 0 y
theorem Has.p1 {w : World} {b : Nat} {x0 x1 x2 y : Value} {t : TypeId} (h : Has w b #[x0, x1, x2] t) : Has (w.setCell ⟨b, 1, none⟩ y) b #[x0, y, x2] t := h.put 1 y
theorem Has.p2 {w : World} {b : Nat} {x0 x1 x2 y : Value} {t : TypeId} (h : Has w b #[x0, x1, x2] t) : Has (w.setCell ⟨b, 2, none⟩ y) b #[x0, x1, y] t := h.put 2 y
/-- what stands while the sums are made, above block G -/
structure TwoSt (w : World) (T : Nat) (t : Ty) (G g g2 m : Nat) (U V : Nat → T3) (W : World) : Prop where
  st : RnSt w T t W
  hT : T < G
  t1 : Trips W G (some ⟨g, 0, none⟩) m U
  t2 : Trips W G (some ⟨g2, 0, none⟩) m V
theorem TwoSt.over {w W W' : World} {T G g g2 m : Nat} {t : Ty} {U V : Nat → T3} (h : TwoSt w T t G g g2 m U V W) (hb : Below G W W') : TwoSt w T t G g g2 m U V W' :=
  ⟨h.st.over hb h.hT, h.hT, h.t1.below hb, h.t2.below hb⟩
end Go.Proofs.Ytlmgfcgakdanaaa
