/- A treaty that came in, whatever it is; and what stands in the law ReinstatePrice. -/
import Derived.Test.YtlmgfcgakdanaaaArgs
import Derived.Test.YtlmgfcgakdanaaaTyG
import Derived.Test.YtlmgfcgakdanaaaEv28
import Derived.Test.YtlmgfcgakdanaaaRnB
import Derived.Test.YtlmgfcgakdanaaaDkT
namespace Go.Proofs.Ytlmgfcgakdanaaa
open Go.RowKit
set_option linter.unusedVariables false

theorem rd_truth {w : World} {v : Value} (h : Rd4 w [v]) : ∃ b : Bool, v = .bool b := by
  obtain ⟨n, h1⟩ := h
  injection h1 with h1
  exact ⟨n, h1⟩
theorem RnSt.up {w W W' : World} {T B : Nat} {t : Ty} (h : RnSt w T t W) (hb : Below B W W') (hT : T < B) : RnSt w T t W' :=
  have h1 := h.wT
  ⟨h.box.below hb hT, h.ins.below (hb.mono (Nat.le_of_lt hT)), h.below.trans (hb.mono (by omega)), h.wT⟩
theorem pairs_of {w : World} {a : Addr} {n : Nat} (h : ∀ i, i < n → ∃ cs : List Value, cs.length = 2 ∧ (∀ j, j < 2 → w.cell? (a.add (i * 2 + j)) = cs[j]?) ∧ ∀ v, v ∈ cs → IsI64 v) :
    ∃ f g : Nat → Int, Pairs w w.heap.size (some a) n f g := by
  obtain ⟨f, hc, hp⟩ := cells_of h
  obtain ⟨z, hz, hb⟩ := cells_ints hc hp
  refine ⟨fun j => z (2 * j), fun j => z (2 * j + 1), Cells.congr hz fun j hj => ?_⟩
  unfold pairAt
  by_cases e : j % 2 = 0
  · rw [if_pos e]
    simp only [show 2 * (j / 2) = j by omega]
  · rw [if_neg e]
    simp only [show 2 * (j / 2) + 1 = j by omega]
theorem rd_parts {w : World} {v : Value} (h : Rd25 w [v]) : ∃ (A : Option Addr) (n c : Nat) (f g : Nat → Int), v = .slice A n c ∧ n ≤ 9223372036854775807 ∧ Pairs w w.heap.size A n f g := by
  rcases h with h | ⟨a, len, cap, h, h1, h2, h3⟩
  · injection h with h
    exact ⟨none, 0, 0, fun _ => 0, fun _ => 0, h, by omega, Pairs.zero⟩
  · injection h with h
    obtain ⟨f, g, hp⟩ := pairs_of (w := w) (a := a) (n := len) fun i hi => by
      obtain ⟨cs, hl, hcc, v0, v1, hv, r0, r1⟩ := h3 i (by omega)
      refine ⟨cs, hl, hcc, fun v hv' => ?_⟩
      rw [hv] at hv'
      simp only [List.mem_cons, List.not_mem_nil, or_false] at hv'
      rcases hv' with rfl | rfl
      · exact rd_i64 r0
      · exact rd_i64 r1
    exact ⟨some a, len, cap, f, g, h, by unfold maxLen at h2; omega, hp⟩

/-- a treaty that came in -/
theorem rd_treaty {w : World} {cs : List Value} (h : Rd27 w cs) : ∃ t : Ty, cs.toArray = t.cells ∧ t.In w w.heap.size := by
  obtain ⟨v0, v1, v2, v3, v4, v5, v6, v7, v8, v9, v10, v11, v12, v13, v14, v15, v16, v17, v18, v19, v20, rfl, e0, e1, e2, e4, e5, e6, e7, e8, e9, e10, e11, e12, e13, e14, e15, e16, e17, e18, e19, e20⟩ := h
  obtain ⟨n0, rfl, _, _⟩ := rd_i64 e0
  obtain ⟨n1, rfl, _, _⟩ := rd_i64 e1
  obtain ⟨n6, rfl, _, _⟩ := rd_i64 e6
  obtain ⟨n7, rfl, _, _⟩ := rd_i64 e7
  obtain ⟨n8, rfl, _, _⟩ := rd_i64 e8
  obtain ⟨n9, rfl, _, _⟩ := rd_i64 e9
  obtain ⟨n10, rfl, _, _⟩ := rd_i64 e10
  obtain ⟨n11, rfl, _, _⟩ := rd_i64 e11
  obtain ⟨n12, rfl, _, _⟩ := rd_i64 e12
  obtain ⟨n13, rfl, _, _⟩ := rd_i64 e13
  obtain ⟨n14, rfl, _, _⟩ := rd_i64 e14
  obtain ⟨n15, rfl, _, _⟩ := rd_i64 e15
  obtain ⟨n18, rfl, _, _⟩ := rd_i64 e18
  obtain ⟨p0, p1, hp, f0, f1⟩ := e2
  injection hp with hp0 hp1
  injection hp1 with hp1 _
  subst hp0 hp1
  obtain ⟨n2, rfl, _, _⟩ := rd_i64 f0
  obtain ⟨n3, rfl, _, _⟩ := rd_i64 f1
  obtain ⟨b17, rfl⟩ := rd_truth e17
  obtain ⟨A4, l4, c4, z4, rfl, hl4, _, _, hc4, _⟩ := rd_ints e4
  obtain ⟨A5, l5, c5, z5, rfl, hl5, _, _, hc5, _⟩ := rd_ints e5
  obtain ⟨A16, l16, c16, z16, rfl, hl16, _, _, hc16, _⟩ := rd_ints e16
  obtain ⟨A19, l19, c19, z19, rfl, hl19, _, _, hc19, _⟩ := rd_ints e19
  obtain ⟨A20, l20, c20, z20, y20, rfl, hl20, hc20⟩ := rd_parts e20
  exact ⟨{ id := n0, kind := n1, pf := n2, pt := n3, risk := n6, cess := n7, line := n8, lines := n9, ret := n10, lim := n11, win := n12, ded := n13, agg := n14, prem := n15, timed := b17, base := n18, Ape := A4, npe := l4, cpe := c4, fpe := z4, Aar := A5, nar := l5, car := c5, far := z5, Are := A16, nre := l16, cre := c16, fre := z16, Ain := A19, nin := l19, cin := c19, fin := z19, Apa := A20, npa := l20, cpa := c20, fpa := z20, gpa := y20 }, rfl, ⟨hc4, hc5, hc16, hc19, hc20, hl4, hl5, hl16, hl19, hl20⟩⟩

/-- the treaty t came in and lies in block R; D is the deck; the treaty s, made of the deck, lies in block T -/
structure PcSt (w : World) (R D T : Nat) (t s : Ty) (W : World) : Prop where
  raw : RnSt w R t W
  box : s.Box W T
  ins : s.In W W.heap.size
  ov : s.Over (D + 1)
  dk : IsDeck W D
  RD : R < D
  DT : D < T
section
variable {w W W' : World} {R D T : Nat} {t s : Ty}
theorem PcSt.lt (h : PcSt w R D T t s W) : T < W.heap.size := h.box.lt
theorem PcSt.call (h : PcSt w R D T t s W) (hk : Keeps D W W') (hd : IsDeck W' D) : PcSt w R D T t s W' :=
  have h1 := h.dk.lt; have h2 := h.DT
  ⟨h.raw.up (hk.below (Nat.le_refl D) (Nat.le_of_lt h1)) h.RD, h.box.keeps hk (by omega), (h.ins.step hk h.ov).mono hk.size, h.ov, hd, h.RD, h.DT⟩
theorem PcSt.next (h : PcSt w R D T t s W) (hb : Below W.heap.size W W') : PcSt w R D T t s W' :=
  ⟨h.raw.next hb, h.box.below hb h.lt, (h.ins.below hb).mono hb.size, h.ov, h.dk.below hb h.dk.lt, h.RD, h.DT⟩
theorem PcSt.drewN (h : PcSt w R D T t s W) (n : Nat) : PcSt w R D T t s (W.drewN n) := h.next (below_drewN (Below.refl _ _) n)
theorem PcSt.drew (h : PcSt w R D T t s W) : PcSt w R D T t s W.drew := h.next (Below.drew (Below.refl _ _))
/-- another treaty is laid into block T -/
theorem PcSt.set {s2 : Ty} (h : PcSt w R D T t s W) (hi : s2.In W W.heap.size) (ho : s2.Over (T + 1)) (hb : s2.Box W' T) (hl : Leaves (fun k => k = T) W W') : PcSt w R D T t s2 W' := by
  have h1 := h.DT
  have h2 := h.RD
  have h3 := h.lt
  have hbl : Below T W W' := hl.below (fun k hk => by omega) (by omega)
  refine ⟨h.raw.up hbl (by omega), hb, hi.leaves hl fun k hk => ⟨fun ad e => ?_, fun ad e => ?_, fun ad e => ?_, fun ad e => ?_, fun ad e => ?_⟩, ho.mono (by omega), h.dk.below hbl h.DT, h.RD, h.DT⟩
  · have := ho.1 ad e; omega
  · have := ho.2.1 ad e; omega
  · have := ho.2.2.1 ad e; omega
  · have := ho.2.2.2.1 ad e; omega
  · have := ho.2.2.2.2 ad e; omega
/-- both treaties, as a region that draws loads them -/
theorem PcSt.two (h : PcSt w R D T t s W) : TyAt W (.pointer (some ⟨R, 0, none⟩)) ∧ tyCells W (.pointer (some ⟨R, 0, none⟩)) = t.cells ∧ TyAt W (.pointer (some ⟨T, 0, none⟩)) ∧ tyCells W (.pointer (some ⟨T, 0, none⟩)) = s.cells :=
  have h1 := box_load h.raw.box; have h2 := box_load h.box
  ⟨h1.1, h1.2.1, h2.1, h2.2.1⟩
end
end Go.Proofs.Ytlmgfcgakdanaaa
