/- adjust.Adjust: the five steps of an insured item. -/
import Derived.Test.YtageedgbkaknnaaAdjA
import Derived.Deep.RegionWith
import Derived.Deep.CutBlock
import Derived.Deep.DeepCutAuto
import Derived.RegionTactic
namespace Go.Proofs.Ytageedgbkaknnaa
open Go.RowKit

namespace Ad
/-- the adjustment's cells after k steps -/
def part (D : Dec) (X : Itm) : Nat → Array Value
  | 0 => #[.int .i64 X.gross, .int .i64 0, .int .i64 0, .int .i64 0, .int .i64 0, .int .i64 0, .int .i64 0, .int .i64 0, .int .i64 0]
  | 1 => #[.int .i64 X.gross, .int .i64 0, .int .i64 (aver D X), .int .i64 0, .int .i64 0, .int .i64 0, .int .i64 0, .int .i64 0, .int .i64 0]
  | 2 => #[.int .i64 X.gross, .int .i64 0, .int .i64 (aver D X), .int .i64 (fran D X), .int .i64 0, .int .i64 0, .int .i64 0, .int .i64 0, .int .i64 0]
  | 3 => #[.int .i64 X.gross, .int .i64 0, .int .i64 (aver D X), .int .i64 (fran D X), .int .i64 (ded D X), .int .i64 0, .int .i64 0, .int .i64 0, .int .i64 0]
  | 4 => #[.int .i64 X.gross, .int .i64 0, .int .i64 (aver D X), .int .i64 (fran D X), .int .i64 (ded D X), .int .i64 (coin D X), .int .i64 0, .int .i64 0, .int .i64 0]
  | _ => #[.int .i64 X.gross, .int .i64 0, .int .i64 (aver D X), .int .i64 (fran D X), .int .i64 (ded D X), .int .i64 (coin D X), .int .i64 (over D X), .int .i64 0, .int .i64 0]

/-- the rest after k steps -/
def rest (D : Dec) (X : Itm) : Nat → Int
  | 0 => X.gross | 1 => r1 D X | 2 => r2 D X | 3 => r3 D X | 4 => r4 D X | _ => net D X

/-- the cells of the five steps -/
def steps (B : Nat) : Array Value :=
  #[.pointer (some ⟨(B + 1 + 1 + 1 + 1 + 1), 2, none⟩), .func (.func 19) #[] #[.pointer (some ⟨B, 0, none⟩), .pointer (some ⟨(B + 1), 0, none⟩), .pointer (some ⟨(B + 1 + 1 + 1 + 1 + 1 + 1), 0, none⟩), .pointer (some ⟨(B + 1 + 1 + 1 + 1 + 1 + 1 + 1 + 1), 0, none⟩)],
    .pointer (some ⟨(B + 1 + 1 + 1 + 1 + 1), 3, none⟩), .func (.func 21) #[] #[.pointer (some ⟨(B + 1 + 1 + 1 + 1 + 1 + 1), 0, none⟩), .pointer (some ⟨B, 0, none⟩)],
    .pointer (some ⟨(B + 1 + 1 + 1 + 1 + 1), 4, none⟩), .func (.func 22) #[] #[.pointer (some ⟨(B + 1 + 1 + 1 + 1 + 1 + 1), 0, none⟩), .pointer (some ⟨B, 0, none⟩)],
    .pointer (some ⟨(B + 1 + 1 + 1 + 1 + 1), 5, none⟩), .func (.func 23) #[] #[.pointer (some ⟨(B + 1 + 1 + 1 + 1 + 1 + 1 + 1 + 1), 0, none⟩), .pointer (some ⟨(B + 1 + 1 + 1 + 1 + 1 + 1), 0, none⟩), .pointer (some ⟨B, 0, none⟩)],
    .pointer (some ⟨(B + 1 + 1 + 1 + 1 + 1), 6, none⟩), .func (.func 25) #[] #[.pointer (some ⟨B, 0, none⟩), .pointer (some ⟨(B + 1 + 1 + 1 + 1 + 1 + 1), 0, none⟩)]]

/-- memory at the head of round k: w is the world in which Adjust was called -/
structure St (w : World) (D : Dec) (X : Itm) (F : Value) (k : Nat) (wr : World) : Prop where
  d : Has wr w.heap.size #[.int .i64 D.v, .int .i64 D.l, .int .i64 D.d, .int .i64 D.f, .int .i64 D.c, .bool D.a] 23
  x : Has wr (w.heap.size + 1) #[F, .int .i64 X.val, .int .i64 X.sum, .int .i64 X.gross] 26
  out : Has wr (w.heap.size + 1 + 1) #[.int .i64 0, .int .i64 0, .int .i64 0, .int .i64 0, .int .i64 0, .int .i64 0, .int .i64 0, .int .i64 0, .int .i64 0] 28
  a : Has wr (w.heap.size + 1 + 1 + 1 + 1 + 1) (part D X k) 28
  r : Has wr (w.heap.size + 1 + 1 + 1 + 1 + 1 + 1) #[.int .i64 (rest D X k)] 3
  f : Has wr (w.heap.size + 1 + 1 + 1 + 1 + 1 + 1 + 1) #[.int .i64 0] 29
  n : Has wr (w.heap.size + 1 + 1 + 1 + 1 + 1 + 1 + 1 + 1) #[noteV (w.heap.size + 1 + 1 + 1 + 1 + 1 + 1 + 1)] 47
  s : Has wr (w.heap.size + 1 + 1 + 1 + 1 + 1 + 1 + 1 + 1 + 1) (steps w.heap.size) 53
  below : Below w.heap.size w wr
/-- what step k takes -/
def take (D : Dec) (X : Itm) : Nat → Int
  | 0 => aver D X | 1 => fran D X | 2 => ded D X | 3 => coin D X | _ => over D X

theorem take_ok (D : Dec) (X : Itm) (G : Good D X) (k : Nat) (hk : k < 5) :
    0 ≤ rest D X k ∧ rest D X k ≤ 1073741824 ∧ 0 ≤ take D X k ∧ take D X k ≤ rest D X k ∧ rest D X k - take D X k = rest D X (k + 1) := by
  have g0 := G.gross
  have g1 := G.r1
  have g2 := G.r2
  have g3 := G.r3
  have g4 := G.r4
  have t0 := G.aver
  have t1 := G.fran
  have t2 := G.ded
  have t3 := G.coin
  have t4 := G.over
  obtain rfl | rfl | rfl | rfl | rfl : k = 0 ∨ k = 1 ∨ k = 2 ∨ k = 3 ∨ k = 4 := by omega
  · exact ⟨g0.1, g0.2, t0.1, t0.2, rfl⟩
  · exact ⟨g1.1, by show r1 D X ≤ _; omega, t1.1, t1.2, rfl⟩
  · exact ⟨g2.1, by show r2 D X ≤ _; omega, t2.1, t2.2, rfl⟩
  · exact ⟨g3.1, by show r3 D X ≤ _; omega, t3.1, t3.2, rfl⟩
  · exact ⟨g4.1, by show r4 D X ≤ _; omega, t4.1, t4.2, rfl⟩

/-- memory between the two statements of round k -/
structure Mid (w : World) (D : Dec) (X : Itm) (F : Value) (k sb : Nat) (p fn : Value) (wr : World) : Prop where
  d : Has wr w.heap.size #[.int .i64 D.v, .int .i64 D.l, .int .i64 D.d, .int .i64 D.f, .int .i64 D.c, .bool D.a] 23
  x : Has wr (w.heap.size + 1) #[F, .int .i64 X.val, .int .i64 X.sum, .int .i64 X.gross] 26
  out : Has wr (w.heap.size + 1 + 1) #[.int .i64 0, .int .i64 0, .int .i64 0, .int .i64 0, .int .i64 0, .int .i64 0, .int .i64 0, .int .i64 0, .int .i64 0] 28
  a : Has wr (w.heap.size + 1 + 1 + 1 + 1 + 1) (part D X (k + 1)) 28
  r : Has wr (w.heap.size + 1 + 1 + 1 + 1 + 1 + 1) #[.int .i64 (rest D X k)] 3
  f : Has wr (w.heap.size + 1 + 1 + 1 + 1 + 1 + 1 + 1) #[.int .i64 0] 29
  n : Has wr (w.heap.size + 1 + 1 + 1 + 1 + 1 + 1 + 1 + 1) #[noteV (w.heap.size + 1 + 1 + 1 + 1 + 1 + 1 + 1)] 47
  s : Has wr (w.heap.size + 1 + 1 + 1 + 1 + 1 + 1 + 1 + 1 + 1) (steps w.heap.size) 53
  me : Has wr sb #[p, fn] 53
  far : (w.heap.size + 1 + 1 + 1 + 1 + 1 + 1 + 1 + 1 + 1) < sb
  below : Below w.heap.size w wr

theorem Mid.of_st {w : World} {D : Dec} {X : Itm} {F : Value} {k : Nat} {wr : World} (h : St w D X F k wr) (p fn : Value) (off : Nat) (t : Int) (q : Nat)
    (hp : (part D X k).setIfInBounds off (.int .i64 t) = part D X (k + 1)) :
    Mid w D X F k wr.heap.size p fn (((wr.alloc (.cells #[p, fn] 53)).setCell ⟨(w.heap.size + 1 + 1 + 1 + 1 + 1), off, none⟩ (.int .i64 t)).drewN q) := by
  have h5 := h.a.lt
  have h9 := h.s.lt
  refine ⟨?_, ?_, ?_, ?_, ?_, ?_, ?_, ?_, ?_, h9, ?_⟩
  · exact ((h.d.alloc _).far (by simp <;> omega) _).drewN q
  · exact ((h.x.alloc _).far (by simp <;> omega) _).drewN q
  · exact ((h.out.alloc _).far (by simp <;> omega) _).drewN q
  · rw [← hp]; exact ((h.a.alloc _).put off _).drewN q
  · exact ((h.r.alloc _).far (by simp) _).drewN q
  · exact ((h.f.alloc _).far (by simp <;> omega) _).drewN q
  · exact ((h.n.alloc _).far (by simp <;> omega) _).drewN q
  · exact ((h.s.alloc _).far (by simp <;> omega) _).drewN q
  · exact ((Has.new wr _ _).far (by simp <;> omega) _).drewN q
  · exact below_drewN ((h.below.alloc (by omega) _).setCell (by simp <;> omega) _) q

theorem put9 {w : World} {b : Nat} {t : TypeId} {x0 x1 x2 x3 x4 x5 x6 x7 x8 : Value} (h : Has w b #[x0, x1, x2, x3, x4, x5, x6, x7, x8] t) (v0 v1 v2 v3 v4 v5 v6 v7 v8 : Value) :
    Has (((((((((w.setCell ⟨b, 0, none⟩ v0).setCell ⟨b, 1, none⟩ v1).setCell ⟨b, 2, none⟩ v2).setCell ⟨b, 3, none⟩ v3).setCell ⟨b, 4, none⟩ v4).setCell ⟨b, 5, none⟩ v5).setCell ⟨b, 6, none⟩ v6).setCell ⟨b, 7, none⟩ v7).setCell ⟨b, 8, none⟩ v8)
      b #[v0, v1, v2, v3, v4, v5, v6, v7, v8] t := by
  have h9 := ((((((((h.put 0 v0).put 1 v1).put 2 v2).put 3 v3).put 4 v4).put 5 v5).put 6 v6).put 7 v7).put 8 v8
  simp only [List.setIfInBounds_toArray, List.set_cons_zero, List.set_cons_succ] at h9
  exact h9

theorem read_out (W : World) (b : Nat) (v0 v1 v2 v3 v4 v5 v6 v7 v8 e : Int) (tmps : Array Value)
    (h : Has W b #[.int .i64 v0, .int .i64 v1, .int .i64 v2, .int .i64 v3, .int .i64 v4, .int .i64 v5, .int .i64 v6, .int .i64 v7, .int .i64 v8] 28)
    (ht : tmps.getD 4 undef = .pointer (some ⟨b, 0, none⟩)) (h5 : tmps.getD 5 undef = .int .i64 e) :
    (results Try.f9 tmps).run Try.prog W = .ok (.tuple #[(⟨v0, v1, v2, v3, v4, v5, v6, v7, v8⟩ : Adj).agg, .int .i64 e]) W := by
  have c0 := h.cell 0
  have c1 := h.cell 1
  have c2 := h.cell 2
  have c3 := h.cell 3
  have c4 := h.cell 4
  have c5 := h.cell 5
  have c6 := h.cell 6
  have c7 := h.cell 7
  have c8 := h.cell 8
  simp only [List.getElem?_toArray, List.getElem?_cons_zero, List.getElem?_cons_succ] at c0 c1 c2 c3 c4 c5 c6 c7 c8
  have ht' : tmps[4]?.getD undef = .pointer (some ⟨b, 0, none⟩) := by simpa using ht
  have h5' : tmps[5]?.getD undef = .int .i64 e := by simpa using h5
  clear h ht h5
  simp only [results, Try.results9]
  simp [go_sem, ht', h5', c0, c1, c2, c3, c4, c5, c6, c7, c8, Adj.agg]

theorem St.of_mid {w : World} {D : Dec} {X : Itm} {F : Value} {k sb : Nat} {p fn : Value} {wr : World} (h : Mid w D X F k sb p fn wr) (q : Nat) :
    St w D X F (k + 1) ((wr.setCell ⟨(w.heap.size + 1 + 1 + 1 + 1 + 1 + 1), 0, none⟩ (.int .i64 (rest D X (k + 1)))).drewN q) := by
  refine ⟨?_, ?_, ?_, ?_, ?_, ?_, ?_, ?_, ?_⟩
  · exact (h.d.far (by simp <;> omega) _).drewN q
  · exact (h.x.far (by simp <;> omega) _).drewN q
  · exact (h.out.far (by simp <;> omega) _).drewN q
  · exact (h.a.far (by simp) _).drewN q
  · exact (h.r.put 0 _).drewN q
  · exact (h.f.far (by simp) _).drewN q
  · exact (h.n.far (by simp <;> omega) _).drewN q
  · exact (h.s.far (by simp <;> omega) _).drewN q
  · exact below_drewN (h.below.setCell (by simp <;> omega) _) q

end Ad

set_option maxHeartbeats 8000000 in
theorem adjust_ins (l de fr co : Int) (av : Bool) (A : Option Addr) (n c : Nat) (va su gr : Int) (w : World) (he : Hid (Ad.err ⟨4, l, de, fr, co, av⟩ ⟨va, su, gr⟩ = 0)) :
    Calls Try.prog 9 #[.agg #[.int .i64 4, .int .i64 l, .int .i64 de, .int .i64 fr, .int .i64 co, .bool av], .agg #[.slice A n c, .int .i64 va, .int .i64 su, .int .i64 gr]] w
      fun r w' => r = .returned (.tuple #[(Ad.paid ⟨4, l, de, fr, co, av⟩ ⟨va, su, gr⟩).agg, .int .i64 0]) ∧ Below w.heap.size w w' := by
  have cv : ∀ W, Calls Try.prog 17 #[.agg #[.int .i64 4, .int .i64 l, .int .i64 de, .int .i64 fr, .int .i64 co, .bool av], .agg #[.slice A n c, .int .i64 va, .int .i64 su, .int .i64 gr]] W
      fun r w' => r = .returned (.int .i64 0) ∧ Ad.boxes ⟨4, l, de, fr, co, av⟩ ⟨va, su, gr⟩ (.slice A n c) W = w' := fun W => by
    have := validate_any ⟨4, l, de, fr, co, av⟩ ⟨va, su, gr⟩ A n c W
    rw [he.out] at this
    exact this
  have CV := Lib.hid cv
  clear cv
  go_enter Try.func9, Try.ntmps9
  go_wp2_with (go_at_call 17; refine (CV.out _).mono ?_; rintro r w' ⟨rfl, rfl⟩; unfold Ad.boxes)
  go_loopw [53] (fun s53 wr => ∃ k : Nat, k ≤ 5 ∧ s53 = .int .i64 k ∧ Hid (Ad.St w ⟨4, l, de, fr, co, av⟩ ⟨va, su, gr⟩ (.slice A n c) k wr)) (fun s53 _ => 5 - (intOf s53).toNat)
  case atStart =>
    refine ⟨0, by omega, rfl, Lib.hid ⟨?_, ?_, ?_, ?_, ?_, ?_, ?_, ?_, ?_⟩⟩
    · exact (((((((((Has.new' _ _ _ _ (by simp)).alloc _).alloc _).alloc _).alloc _).alloc _).alloc _).alloc _).alloc _).alloc _
    · exact ((((((((Has.new' _ _ _ _ (by simp)).alloc _).alloc _).alloc _).alloc _).alloc _).alloc _).alloc _).alloc _
    · exact (((((((Has.new' _ _ _ _ (by simp)).alloc _).alloc _).alloc _).alloc _).alloc _).alloc _).alloc _
    · exact ((((Has.new' _ _ _ _ (by simp)).alloc _).alloc _).alloc _).alloc _
    · exact (((Has.new' _ _ _ _ (by simp)).alloc _).alloc _).alloc _
    · exact ((Has.new' _ _ _ _ (by simp)).alloc _).alloc _
    · exact (Has.new' _ _ _ _ (by simp)).alloc _
    · exact Has.new' _ _ _ _ (by simp)
    · exact by repeat (first | exact Below.refl _ _ | refine Below.alloc ?_ (by simp <;> omega) _ | refine Below.setCell ?_ (by simp <;> omega) _ | refine below_drewN ?_ _)
  case round =>
    clear CV
    obtain ⟨k, hk, rfl, ST⟩ := hrel
    by_cases hk5 : k = 5
    · subst hk5
      clear he hk
      obtain ⟨ta, hta⟩ : ∃ t, Ad.aver ⟨4, l, de, fr, co, av⟩ ⟨va, su, gr⟩ = t := ⟨_, rfl⟩
      obtain ⟨tf, htf⟩ : ∃ t, Ad.fran ⟨4, l, de, fr, co, av⟩ ⟨va, su, gr⟩ = t := ⟨_, rfl⟩
      obtain ⟨td, htd⟩ : ∃ t, Ad.ded ⟨4, l, de, fr, co, av⟩ ⟨va, su, gr⟩ = t := ⟨_, rfl⟩
      obtain ⟨tc, htc⟩ : ∃ t, Ad.coin ⟨4, l, de, fr, co, av⟩ ⟨va, su, gr⟩ = t := ⟨_, rfl⟩
      obtain ⟨tv, htv⟩ : ∃ t, Ad.over ⟨4, l, de, fr, co, av⟩ ⟨va, su, gr⟩ = t := ⟨_, rfl⟩
      obtain ⟨nt, hnt⟩ : ∃ t, Ad.net ⟨4, l, de, fr, co, av⟩ ⟨va, su, gr⟩ = t := ⟨_, rfl⟩
      have c0 : wr.cell? ⟨(w.heap.size + 1 + 1 + 1 + 1 + 1), 0, none⟩ = some (.int .i64 gr) := (ST.out.a.cell 0).trans (rfl)
      have c1 : wr.cell? ⟨(w.heap.size + 1 + 1 + 1 + 1 + 1), 1, none⟩ = some (.int .i64 0) := (ST.out.a.cell 1).trans (rfl)
      have c2 : wr.cell? ⟨(w.heap.size + 1 + 1 + 1 + 1 + 1), 2, none⟩ = some (.int .i64 ta) := (ST.out.a.cell 2).trans (by rw [← hta]; rfl)
      have c3 : wr.cell? ⟨(w.heap.size + 1 + 1 + 1 + 1 + 1), 3, none⟩ = some (.int .i64 tf) := (ST.out.a.cell 3).trans (by rw [← htf]; rfl)
      have c4 : wr.cell? ⟨(w.heap.size + 1 + 1 + 1 + 1 + 1), 4, none⟩ = some (.int .i64 td) := (ST.out.a.cell 4).trans (by rw [← htd]; rfl)
      have c5 : wr.cell? ⟨(w.heap.size + 1 + 1 + 1 + 1 + 1), 5, none⟩ = some (.int .i64 tc) := (ST.out.a.cell 5).trans (by rw [← htc]; rfl)
      have c6 : wr.cell? ⟨(w.heap.size + 1 + 1 + 1 + 1 + 1), 6, none⟩ = some (.int .i64 tv) := (ST.out.a.cell 6).trans (by rw [← htv]; rfl)
      have c7 : wr.cell? ⟨(w.heap.size + 1 + 1 + 1 + 1 + 1), 7, none⟩ = some (.int .i64 0) := (ST.out.a.cell 7).trans (rfl)
      have c8 : wr.cell? ⟨(w.heap.size + 1 + 1 + 1 + 1 + 1), 8, none⟩ = some (.int .i64 0) := (ST.out.a.cell 8).trans (rfl)
      have o0 : wr.cell? ⟨(w.heap.size + 1 + 1), 0, none⟩ = some (.int .i64 0) := ST.out.out.cell 0
      have o1 : wr.cell? ⟨(w.heap.size + 1 + 1), 1, none⟩ = some (.int .i64 0) := ST.out.out.cell 1
      have o2 : wr.cell? ⟨(w.heap.size + 1 + 1), 2, none⟩ = some (.int .i64 0) := ST.out.out.cell 2
      have o3 : wr.cell? ⟨(w.heap.size + 1 + 1), 3, none⟩ = some (.int .i64 0) := ST.out.out.cell 3
      have o4 : wr.cell? ⟨(w.heap.size + 1 + 1), 4, none⟩ = some (.int .i64 0) := ST.out.out.cell 4
      have o5 : wr.cell? ⟨(w.heap.size + 1 + 1), 5, none⟩ = some (.int .i64 0) := ST.out.out.cell 5
      have o6 : wr.cell? ⟨(w.heap.size + 1 + 1), 6, none⟩ = some (.int .i64 0) := ST.out.out.cell 6
      have o7 : wr.cell? ⟨(w.heap.size + 1 + 1), 7, none⟩ = some (.int .i64 0) := ST.out.out.cell 7
      have o8 : wr.cell? ⟨(w.heap.size + 1 + 1), 8, none⟩ = some (.int .i64 0) := ST.out.out.cell 8
      have f0 := ST.out.out.free 0
      have f1 := ST.out.out.free 1
      have f2 := ST.out.out.free 2
      have f3 := ST.out.out.free 3
      have f4 := ST.out.out.free 4
      have f5 := ST.out.out.free 5
      have f6 := ST.out.out.free 6
      have f7 := ST.out.out.free 7
      have f8 := ST.out.out.free 8
      have a8 := ST.out.a.free 8
      have r0 : wr.cell? ⟨(w.heap.size + 1 + 1 + 1 + 1 + 1 + 1), 0, none⟩ = some (.int .i64 nt) := (ST.out.r.cell 0).trans (by rw [← hnt]; rfl)
      have e0 : wr.cell? ⟨(w.heap.size + 1 + 1 + 1 + 1 + 1 + 1 + 1), 0, none⟩ = some (.int .i64 0) := ST.out.f.cell 0
      have HB := Lib.hid ST.out.below
      have HO := Lib.hid ST.out.out
      have HF : Hid (Ad.paid ⟨4, l, de, fr, co, av⟩ ⟨va, su, gr⟩ = ⟨gr, 0, ta, tf, td, tc, tv, 0, nt⟩) := Lib.hid (by rw [Ad.paid, hta, htf, htd, htc, htv, hnt])
      clear ST hta htf htd htc htv hnt
      go_wp2
      rw [HF.out]
      have HX := Lib.hid (Ad.put9 (HO.out.far (p := ⟨(w.heap.size + 1 + 1 + 1 + 1 + 1), 8, none⟩) (by simp) (.int .i64 nt)) (.int .i64 gr) (.int .i64 0) (.int .i64 ta) (.int .i64 tf) (.int .i64 td) (.int .i64 tc) (.int .i64 tv) (.int .i64 0) (.int .i64 nt))
      refine bodyPost_ret (v := .tuple #[(⟨gr, 0, ta, tf, td, tc, tv, 0, nt⟩ : Ad.Adj).agg, .int .i64 0]) (Ad.read_out _ (w.heap.size + 1 + 1) gr 0 ta tf td tc tv 0 nt 0 _ HX.out rfl rfl) rfl ⟨rfl, ?_⟩
      exact ((((((((((HB.out).setCell (by simp <;> omega) _).setCell (by simp <;> omega) _).setCell (by simp <;> omega) _).setCell (by simp <;> omega) _).setCell (by simp <;> omega) _).setCell (by simp <;> omega) _).setCell (by simp <;> omega) _).setCell (by simp <;> omega) _).setCell (by simp <;> omega) _).setCell (by simp <;> omega) _
    · have G := Ad.good ⟨4, l, de, fr, co, av⟩ ⟨va, su, gr⟩ he.out rfl
      obtain rfl | rfl | rfl | rfl | rfl : k = 0 ∨ k = 1 ∨ k = 2 ∨ k = 3 ∨ k = 4 := by omega
      · obtain ⟨t, ht⟩ : ∃ t, Ad.aver ⟨4, l, de, fr, co, av⟩ ⟨va, su, gr⟩ = t := ⟨_, rfl⟩
        obtain ⟨r, hrr⟩ : ∃ r, Ad.rest ⟨4, l, de, fr, co, av⟩ ⟨va, su, gr⟩ 0 = r := ⟨_, rfl⟩
        obtain ⟨r', hr'⟩ : ∃ r, Ad.rest ⟨4, l, de, fr, co, av⟩ ⟨va, su, gr⟩ (0 + 1) = r := ⟨_, rfl⟩
        have hs0 : wr.cell? ⟨(w.heap.size + 1 + 1 + 1 + 1 + 1 + 1 + 1 + 1 + 1), 0, none⟩ = _ := ST.out.s.cell 0
        have hs1 : wr.cell? ⟨(w.heap.size + 1 + 1 + 1 + 1 + 1 + 1 + 1 + 1 + 1), 1, none⟩ = _ := ST.out.s.cell 1
        simp only [Ad.steps, List.getElem?_toArray, List.getElem?_cons_zero, List.getElem?_cons_succ] at hs0 hs1
        have ha : wr.cell? ⟨(w.heap.size + 1 + 1 + 1 + 1 + 1), 2, none⟩ = some (.int .i64 0) := ST.out.a.cell 2
        have haf := ST.out.a.free 2
        have h9 := ST.out.s.lt
        have h5 : (w.heap.size + 1 + 1 + 1 + 1 + 1) < wr.heap.size := by omega
        have C : Hid (∀ W : World, (∀ b o, b < wr.heap.size → W.cell? ⟨b, o, none⟩ = wr.cell? ⟨b, o, none⟩) → Calls Try.prog 19 #[.pointer (some ⟨w.heap.size, 0, none⟩), .pointer (some ⟨(w.heap.size + 1), 0, none⟩), .pointer (some ⟨(w.heap.size + 1 + 1 + 1 + 1 + 1 + 1), 0, none⟩), .pointer (some ⟨(w.heap.size + 1 + 1 + 1 + 1 + 1 + 1 + 1 + 1), 0, none⟩)] W fun e w' => e = .returned (.int .i64 t) ∧ ∃ m, w' = W.drewN m) := Lib.hid fun W hW => by
          by_cases hc : av = false ∨ va ≤ su
          · have e0 : t = 0 := by rw [← ht]; exact if_pos hc
            subst e0
            exact (take2_no va su av _ _ _ _ W ((hW _ _ (by omega)).trans (ST.out.d.cell 5)) ((hW _ _ (by omega)).trans (ST.out.x.cell 1)) ((hW _ _ (by omega)).trans (ST.out.x.cell 2)) hc).mono fun e w' ⟨h1, h2⟩ => ⟨h1, 0, h2.symm⟩
          · obtain rfl : av = true := by cases av <;> simp_all
            have hmd := G.mdA hc
            have hg := G.gross
            have hav := G.aver
            rw [ht] at hmd hav
            exact take2_yes gr va su t _ _ _ _ (w.heap.size + 1 + 1 + 1 + 1 + 1 + 1 + 1) W ((hW _ _ (by omega)).trans (ST.out.r.cell 0)) ((hW _ _ (by omega)).trans (ST.out.d.cell 5)) ((hW _ _ (by omega)).trans (ST.out.x.cell 1)) ((hW _ _ (by omega)).trans (ST.out.x.cell 2)) ((hW _ _ (by omega)).trans (ST.out.n.cell 0)) (by simp at hc; omega) (Lib.hid hmd) hg.1 hg.2 hav.1 hav.2
        have hb1 := Ad.take_ok ⟨4, l, de, fr, co, av⟩ ⟨va, su, gr⟩ G 0 (by omega)
        rw [show Ad.take ⟨4, l, de, fr, co, av⟩ ⟨va, su, gr⟩ 0 = t from ht, hrr, hr'] at hb1
        obtain ⟨b1, b2, b3, b4, b5⟩ := hb1
        have HP : Hid ((Ad.part ⟨4, l, de, fr, co, av⟩ ⟨va, su, gr⟩ 0).setIfInBounds 2 (.int .i64 t) = Ad.part ⟨4, l, de, fr, co, av⟩ ⟨va, su, gr⟩ (0 + 1)) := Lib.hid (by rw [← ht]; rfl)
        have HR := Lib.hid hrr
        have HT := Lib.hid ht
        have HR' := Lib.hid hr'
        clear ht hrr hr' hk hk5 G
        go_upto_region 14 with (fail)
        go_cut [] (fun wx => Hid (Ad.Mid w ⟨4, l, de, fr, co, av⟩ ⟨va, su, gr⟩ (.slice A n c) 0 wr.heap.size (.pointer (some ⟨(w.heap.size + 1 + 1 + 1 + 1 + 1), 2, none⟩)) (.func (.func 19) #[] #[.pointer (some ⟨w.heap.size, 0, none⟩), .pointer (some ⟨(w.heap.size + 1), 0, none⟩), .pointer (some ⟨(w.heap.size + 1 + 1 + 1 + 1 + 1 + 1), 0, none⟩), .pointer (some ⟨(w.heap.size + 1 + 1 + 1 + 1 + 1 + 1 + 1 + 1), 0, none⟩)]) wx))
        case first =>
          go_region_with ((go_at_call 19; refine (C.out _ ?_).mono ?_; (intro b o hb; exact World.cell?_alloc_lt _ _ _ hb); rintro e w' ⟨rfl, m, rfl⟩))
          all_goals
            go_wp2
            go_meet
            case rel => exact Lib.hid (Ad.Mid.of_st ST.out _ _ 2 t _ HP.out)
        case rest =>
          clear hs0 hs1 ha haf C HP
          have m0 := hcut.out.me.cell 0
          have mt : wc.cell? ⟨(w.heap.size + 1 + 1 + 1 + 1 + 1), 2, none⟩ = some (.int .i64 t) := (hcut.out.a.cell 2).trans (by rw [← HT.out]; rfl)
          have m2 : wc.cell? ⟨(w.heap.size + 1 + 1 + 1 + 1 + 1 + 1), 0, none⟩ = _ := hcut.out.r.cell 0
          have m3 := hcut.out.r.free 0
          rw [HR.out] at m2
          simp only [List.getElem?_toArray, List.getElem?_cons_zero] at m0 m2
          have HS : Hid (∀ q, Ad.St w ⟨4, l, de, fr, co, av⟩ ⟨va, su, gr⟩ (.slice A n c) (0 + 1) ((wc.setCell ⟨(w.heap.size + 1 + 1 + 1 + 1 + 1 + 1), 0, none⟩ (.int .i64 r')).drewN q)) := Lib.hid fun q => by
            have := Ad.St.of_mid hcut.out q
            rw [HR'.out] at this
            exact this
          clear hcut HR HT HR'
          go_wp2
          go_region
          all_goals
            go_wp2
            go_roundw
            case rel => exact ⟨0 + 1, by omega, rfl, Lib.hid (HS.out _)⟩
            case measure => simp [intOf]
      · obtain ⟨t, ht⟩ : ∃ t, Ad.fran ⟨4, l, de, fr, co, av⟩ ⟨va, su, gr⟩ = t := ⟨_, rfl⟩
        obtain ⟨r, hrr⟩ : ∃ r, Ad.rest ⟨4, l, de, fr, co, av⟩ ⟨va, su, gr⟩ 1 = r := ⟨_, rfl⟩
        obtain ⟨r', hr'⟩ : ∃ r, Ad.rest ⟨4, l, de, fr, co, av⟩ ⟨va, su, gr⟩ (1 + 1) = r := ⟨_, rfl⟩
        have hs0 : wr.cell? ⟨(w.heap.size + 1 + 1 + 1 + 1 + 1 + 1 + 1 + 1 + 1), 2, none⟩ = _ := ST.out.s.cell 2
        have hs1 : wr.cell? ⟨(w.heap.size + 1 + 1 + 1 + 1 + 1 + 1 + 1 + 1 + 1), 3, none⟩ = _ := ST.out.s.cell 3
        simp only [Ad.steps, List.getElem?_toArray, List.getElem?_cons_zero, List.getElem?_cons_succ] at hs0 hs1
        have ha : wr.cell? ⟨(w.heap.size + 1 + 1 + 1 + 1 + 1), 3, none⟩ = some (.int .i64 0) := ST.out.a.cell 3
        have haf := ST.out.a.free 3
        have h9 := ST.out.s.lt
        have h5 : (w.heap.size + 1 + 1 + 1 + 1 + 1) < wr.heap.size := by omega
        have C : Hid (∀ W : World, (∀ b o, b < wr.heap.size → W.cell? ⟨b, o, none⟩ = wr.cell? ⟨b, o, none⟩) → Calls Try.prog 21 #[.pointer (some ⟨(w.heap.size + 1 + 1 + 1 + 1 + 1 + 1), 0, none⟩), .pointer (some ⟨w.heap.size, 0, none⟩)] W fun e w' => e = .returned (.int .i64 t) ∧ ∃ m, w' = W.drewN m) := Lib.hid fun W hW => by
          rw [← ht]
          exact (take3_any _ fr _ _ W ((hW _ _ (by omega)).trans (ST.out.r.cell 0)) ((hW _ _ (by omega)).trans (ST.out.d.cell 3))).mono fun e w' ⟨h1, h2⟩ => ⟨h1, 0, h2.symm⟩
        have hb1 := Ad.take_ok ⟨4, l, de, fr, co, av⟩ ⟨va, su, gr⟩ G 1 (by omega)
        rw [show Ad.take ⟨4, l, de, fr, co, av⟩ ⟨va, su, gr⟩ 1 = t from ht, hrr, hr'] at hb1
        obtain ⟨b1, b2, b3, b4, b5⟩ := hb1
        have HP : Hid ((Ad.part ⟨4, l, de, fr, co, av⟩ ⟨va, su, gr⟩ 1).setIfInBounds 3 (.int .i64 t) = Ad.part ⟨4, l, de, fr, co, av⟩ ⟨va, su, gr⟩ (1 + 1)) := Lib.hid (by rw [← ht]; rfl)
        have HR := Lib.hid hrr
        have HT := Lib.hid ht
        have HR' := Lib.hid hr'
        clear ht hrr hr' hk hk5 G
        go_upto_region 14 with (fail)
        go_cut [] (fun wx => Hid (Ad.Mid w ⟨4, l, de, fr, co, av⟩ ⟨va, su, gr⟩ (.slice A n c) 1 wr.heap.size (.pointer (some ⟨(w.heap.size + 1 + 1 + 1 + 1 + 1), 3, none⟩)) (.func (.func 21) #[] #[.pointer (some ⟨(w.heap.size + 1 + 1 + 1 + 1 + 1 + 1), 0, none⟩), .pointer (some ⟨w.heap.size, 0, none⟩)]) wx))
        case first =>
          go_region_with ((go_at_call 21; refine (C.out _ ?_).mono ?_; (intro b o hb; exact World.cell?_alloc_lt _ _ _ hb); rintro e w' ⟨rfl, m, rfl⟩))
          all_goals
            go_wp2
            go_meet
            case rel => exact Lib.hid (Ad.Mid.of_st ST.out _ _ 3 t _ HP.out)
        case rest =>
          clear hs0 hs1 ha haf C HP
          have m0 := hcut.out.me.cell 0
          have mt : wc.cell? ⟨(w.heap.size + 1 + 1 + 1 + 1 + 1), 3, none⟩ = some (.int .i64 t) := (hcut.out.a.cell 3).trans (by rw [← HT.out]; rfl)
          have m2 : wc.cell? ⟨(w.heap.size + 1 + 1 + 1 + 1 + 1 + 1), 0, none⟩ = _ := hcut.out.r.cell 0
          have m3 := hcut.out.r.free 0
          rw [HR.out] at m2
          simp only [List.getElem?_toArray, List.getElem?_cons_zero] at m0 m2
          have HS : Hid (∀ q, Ad.St w ⟨4, l, de, fr, co, av⟩ ⟨va, su, gr⟩ (.slice A n c) (1 + 1) ((wc.setCell ⟨(w.heap.size + 1 + 1 + 1 + 1 + 1 + 1), 0, none⟩ (.int .i64 r')).drewN q)) := Lib.hid fun q => by
            have := Ad.St.of_mid hcut.out q
            rw [HR'.out] at this
            exact this
          clear hcut HR HT HR'
          go_wp2
          go_region
          all_goals
            go_wp2
            go_roundw
            case rel => exact ⟨1 + 1, by omega, rfl, Lib.hid (HS.out _)⟩
            case measure => simp [intOf]
      · obtain ⟨t, ht⟩ : ∃ t, Ad.ded ⟨4, l, de, fr, co, av⟩ ⟨va, su, gr⟩ = t := ⟨_, rfl⟩
        obtain ⟨r, hrr⟩ : ∃ r, Ad.rest ⟨4, l, de, fr, co, av⟩ ⟨va, su, gr⟩ 2 = r := ⟨_, rfl⟩
        obtain ⟨r', hr'⟩ : ∃ r, Ad.rest ⟨4, l, de, fr, co, av⟩ ⟨va, su, gr⟩ (2 + 1) = r := ⟨_, rfl⟩
        have hs0 : wr.cell? ⟨(w.heap.size + 1 + 1 + 1 + 1 + 1 + 1 + 1 + 1 + 1), 4, none⟩ = _ := ST.out.s.cell 4
        have hs1 : wr.cell? ⟨(w.heap.size + 1 + 1 + 1 + 1 + 1 + 1 + 1 + 1 + 1), 5, none⟩ = _ := ST.out.s.cell 5
        simp only [Ad.steps, List.getElem?_toArray, List.getElem?_cons_zero, List.getElem?_cons_succ] at hs0 hs1
        have ha : wr.cell? ⟨(w.heap.size + 1 + 1 + 1 + 1 + 1), 4, none⟩ = some (.int .i64 0) := ST.out.a.cell 4
        have haf := ST.out.a.free 4
        have h9 := ST.out.s.lt
        have h5 : (w.heap.size + 1 + 1 + 1 + 1 + 1) < wr.heap.size := by omega
        have C : Hid (∀ W : World, (∀ b o, b < wr.heap.size → W.cell? ⟨b, o, none⟩ = wr.cell? ⟨b, o, none⟩) → Calls Try.prog 22 #[.pointer (some ⟨(w.heap.size + 1 + 1 + 1 + 1 + 1 + 1), 0, none⟩), .pointer (some ⟨w.heap.size, 0, none⟩)] W fun e w' => e = .returned (.int .i64 t) ∧ ∃ m, w' = W.drewN m) := Lib.hid fun W hW => by
          rw [← ht]
          exact (take4_any _ de _ _ W ((hW _ _ (by omega)).trans (ST.out.r.cell 0)) ((hW _ _ (by omega)).trans (ST.out.d.cell 2))).mono fun e w' ⟨h1, h2⟩ => ⟨h1, 0, h2.symm⟩
        have hb1 := Ad.take_ok ⟨4, l, de, fr, co, av⟩ ⟨va, su, gr⟩ G 2 (by omega)
        rw [show Ad.take ⟨4, l, de, fr, co, av⟩ ⟨va, su, gr⟩ 2 = t from ht, hrr, hr'] at hb1
        obtain ⟨b1, b2, b3, b4, b5⟩ := hb1
        have HP : Hid ((Ad.part ⟨4, l, de, fr, co, av⟩ ⟨va, su, gr⟩ 2).setIfInBounds 4 (.int .i64 t) = Ad.part ⟨4, l, de, fr, co, av⟩ ⟨va, su, gr⟩ (2 + 1)) := Lib.hid (by rw [← ht]; rfl)
        have HR := Lib.hid hrr
        have HT := Lib.hid ht
        have HR' := Lib.hid hr'
        clear ht hrr hr' hk hk5 G
        go_upto_region 14 with (fail)
        go_cut [] (fun wx => Hid (Ad.Mid w ⟨4, l, de, fr, co, av⟩ ⟨va, su, gr⟩ (.slice A n c) 2 wr.heap.size (.pointer (some ⟨(w.heap.size + 1 + 1 + 1 + 1 + 1), 4, none⟩)) (.func (.func 22) #[] #[.pointer (some ⟨(w.heap.size + 1 + 1 + 1 + 1 + 1 + 1), 0, none⟩), .pointer (some ⟨w.heap.size, 0, none⟩)]) wx))
        case first =>
          go_region_with ((go_at_call 22; refine (C.out _ ?_).mono ?_; (intro b o hb; exact World.cell?_alloc_lt _ _ _ hb); rintro e w' ⟨rfl, m, rfl⟩))
          all_goals
            go_wp2
            go_meet
            case rel => exact Lib.hid (Ad.Mid.of_st ST.out _ _ 4 t _ HP.out)
        case rest =>
          clear hs0 hs1 ha haf C HP
          have m0 := hcut.out.me.cell 0
          have mt : wc.cell? ⟨(w.heap.size + 1 + 1 + 1 + 1 + 1), 4, none⟩ = some (.int .i64 t) := (hcut.out.a.cell 4).trans (by rw [← HT.out]; rfl)
          have m2 : wc.cell? ⟨(w.heap.size + 1 + 1 + 1 + 1 + 1 + 1), 0, none⟩ = _ := hcut.out.r.cell 0
          have m3 := hcut.out.r.free 0
          rw [HR.out] at m2
          simp only [List.getElem?_toArray, List.getElem?_cons_zero] at m0 m2
          have HS : Hid (∀ q, Ad.St w ⟨4, l, de, fr, co, av⟩ ⟨va, su, gr⟩ (.slice A n c) (2 + 1) ((wc.setCell ⟨(w.heap.size + 1 + 1 + 1 + 1 + 1 + 1), 0, none⟩ (.int .i64 r')).drewN q)) := Lib.hid fun q => by
            have := Ad.St.of_mid hcut.out q
            rw [HR'.out] at this
            exact this
          clear hcut HR HT HR'
          go_wp2
          go_region
          all_goals
            go_wp2
            go_roundw
            case rel => exact ⟨2 + 1, by omega, rfl, Lib.hid (HS.out _)⟩
            case measure => simp [intOf]
      · obtain ⟨t, ht⟩ : ∃ t, Ad.coin ⟨4, l, de, fr, co, av⟩ ⟨va, su, gr⟩ = t := ⟨_, rfl⟩
        obtain ⟨r, hrr⟩ : ∃ r, Ad.rest ⟨4, l, de, fr, co, av⟩ ⟨va, su, gr⟩ 3 = r := ⟨_, rfl⟩
        obtain ⟨r', hr'⟩ : ∃ r, Ad.rest ⟨4, l, de, fr, co, av⟩ ⟨va, su, gr⟩ (3 + 1) = r := ⟨_, rfl⟩
        have hs0 : wr.cell? ⟨(w.heap.size + 1 + 1 + 1 + 1 + 1 + 1 + 1 + 1 + 1), 6, none⟩ = _ := ST.out.s.cell 6
        have hs1 : wr.cell? ⟨(w.heap.size + 1 + 1 + 1 + 1 + 1 + 1 + 1 + 1 + 1), 7, none⟩ = _ := ST.out.s.cell 7
        simp only [Ad.steps, List.getElem?_toArray, List.getElem?_cons_zero, List.getElem?_cons_succ] at hs0 hs1
        have ha : wr.cell? ⟨(w.heap.size + 1 + 1 + 1 + 1 + 1), 5, none⟩ = some (.int .i64 0) := ST.out.a.cell 5
        have haf := ST.out.a.free 5
        have h9 := ST.out.s.lt
        have h5 : (w.heap.size + 1 + 1 + 1 + 1 + 1) < wr.heap.size := by omega
        have C : Hid (∀ W : World, (∀ b o, b < wr.heap.size → W.cell? ⟨b, o, none⟩ = wr.cell? ⟨b, o, none⟩) → Calls Try.prog 23 #[.pointer (some ⟨(w.heap.size + 1 + 1 + 1 + 1 + 1 + 1 + 1 + 1), 0, none⟩), .pointer (some ⟨(w.heap.size + 1 + 1 + 1 + 1 + 1 + 1), 0, none⟩), .pointer (some ⟨w.heap.size, 0, none⟩)] W fun e w' => e = .returned (.int .i64 t) ∧ ∃ m, w' = W.drewN m) := Lib.hid fun W hW => by
          have hmd := G.mdC
          rw [ht] at hmd
          exact take5_any _ co t _ _ _ (w.heap.size + 1 + 1 + 1 + 1 + 1 + 1 + 1) W ((hW _ _ (by omega)).trans (ST.out.r.cell 0)) ((hW _ _ (by omega)).trans (ST.out.d.cell 4)) ((hW _ _ (by omega)).trans (ST.out.n.cell 0)) (Lib.hid hmd)
        have hb1 := Ad.take_ok ⟨4, l, de, fr, co, av⟩ ⟨va, su, gr⟩ G 3 (by omega)
        rw [show Ad.take ⟨4, l, de, fr, co, av⟩ ⟨va, su, gr⟩ 3 = t from ht, hrr, hr'] at hb1
        obtain ⟨b1, b2, b3, b4, b5⟩ := hb1
        have HP : Hid ((Ad.part ⟨4, l, de, fr, co, av⟩ ⟨va, su, gr⟩ 3).setIfInBounds 5 (.int .i64 t) = Ad.part ⟨4, l, de, fr, co, av⟩ ⟨va, su, gr⟩ (3 + 1)) := Lib.hid (by rw [← ht]; rfl)
        have HR := Lib.hid hrr
        have HT := Lib.hid ht
        have HR' := Lib.hid hr'
        clear ht hrr hr' hk hk5 G
        go_upto_region 14 with (fail)
        go_cut [] (fun wx => Hid (Ad.Mid w ⟨4, l, de, fr, co, av⟩ ⟨va, su, gr⟩ (.slice A n c) 3 wr.heap.size (.pointer (some ⟨(w.heap.size + 1 + 1 + 1 + 1 + 1), 5, none⟩)) (.func (.func 23) #[] #[.pointer (some ⟨(w.heap.size + 1 + 1 + 1 + 1 + 1 + 1 + 1 + 1), 0, none⟩), .pointer (some ⟨(w.heap.size + 1 + 1 + 1 + 1 + 1 + 1), 0, none⟩), .pointer (some ⟨w.heap.size, 0, none⟩)]) wx))
        case first =>
          go_region_with ((go_at_call 23; refine (C.out _ ?_).mono ?_; (intro b o hb; exact World.cell?_alloc_lt _ _ _ hb); rintro e w' ⟨rfl, m, rfl⟩))
          all_goals
            go_wp2
            go_meet
            case rel => exact Lib.hid (Ad.Mid.of_st ST.out _ _ 5 t _ HP.out)
        case rest =>
          clear hs0 hs1 ha haf C HP
          have m0 := hcut.out.me.cell 0
          have mt : wc.cell? ⟨(w.heap.size + 1 + 1 + 1 + 1 + 1), 5, none⟩ = some (.int .i64 t) := (hcut.out.a.cell 5).trans (by rw [← HT.out]; rfl)
          have m2 : wc.cell? ⟨(w.heap.size + 1 + 1 + 1 + 1 + 1 + 1), 0, none⟩ = _ := hcut.out.r.cell 0
          have m3 := hcut.out.r.free 0
          rw [HR.out] at m2
          simp only [List.getElem?_toArray, List.getElem?_cons_zero] at m0 m2
          have HS : Hid (∀ q, Ad.St w ⟨4, l, de, fr, co, av⟩ ⟨va, su, gr⟩ (.slice A n c) (3 + 1) ((wc.setCell ⟨(w.heap.size + 1 + 1 + 1 + 1 + 1 + 1), 0, none⟩ (.int .i64 r')).drewN q)) := Lib.hid fun q => by
            have := Ad.St.of_mid hcut.out q
            rw [HR'.out] at this
            exact this
          clear hcut HR HT HR'
          go_wp2
          go_region
          all_goals
            go_wp2
            go_roundw
            case rel => exact ⟨3 + 1, by omega, rfl, Lib.hid (HS.out _)⟩
            case measure => simp [intOf]
      · obtain ⟨t, ht⟩ : ∃ t, Ad.over ⟨4, l, de, fr, co, av⟩ ⟨va, su, gr⟩ = t := ⟨_, rfl⟩
        obtain ⟨r, hrr⟩ : ∃ r, Ad.rest ⟨4, l, de, fr, co, av⟩ ⟨va, su, gr⟩ 4 = r := ⟨_, rfl⟩
        obtain ⟨r', hr'⟩ : ∃ r, Ad.rest ⟨4, l, de, fr, co, av⟩ ⟨va, su, gr⟩ (4 + 1) = r := ⟨_, rfl⟩
        have hs0 : wr.cell? ⟨(w.heap.size + 1 + 1 + 1 + 1 + 1 + 1 + 1 + 1 + 1), 8, none⟩ = _ := ST.out.s.cell 8
        have hs1 : wr.cell? ⟨(w.heap.size + 1 + 1 + 1 + 1 + 1 + 1 + 1 + 1 + 1), 9, none⟩ = _ := ST.out.s.cell 9
        simp only [Ad.steps, List.getElem?_toArray, List.getElem?_cons_zero, List.getElem?_cons_succ] at hs0 hs1
        have ha : wr.cell? ⟨(w.heap.size + 1 + 1 + 1 + 1 + 1), 6, none⟩ = some (.int .i64 0) := ST.out.a.cell 6
        have haf := ST.out.a.free 6
        have h9 := ST.out.s.lt
        have h5 : (w.heap.size + 1 + 1 + 1 + 1 + 1) < wr.heap.size := by omega
        have C : Hid (∀ W : World, (∀ b o, b < wr.heap.size → W.cell? ⟨b, o, none⟩ = wr.cell? ⟨b, o, none⟩) → Calls Try.prog 25 #[.pointer (some ⟨w.heap.size, 0, none⟩), .pointer (some ⟨(w.heap.size + 1 + 1 + 1 + 1 + 1 + 1), 0, none⟩)] W fun e w' => e = .returned (.int .i64 t) ∧ ∃ m, w' = W.drewN m) := Lib.hid fun W hW => by
          rw [← ht]
          have h1 := G.r4
          have h2 := G.r3
          have h3 := G.r2
          have h4 := G.r1
          have h5 := G.gross
          have hq : Ad.r4 ⟨4, l, de, fr, co, av⟩ ⟨va, su, gr⟩ = r := hrr
          simp only at h4 h5
          exact (take6_any _ l _ _ W ((hW _ _ (by omega)).trans (ST.out.r.cell 0)) ((hW _ _ (by omega)).trans (ST.out.d.cell 1)) h1.1 (by omega) G.lim.1 G.lim.2).mono fun e w' ⟨h1, h2⟩ => ⟨h1, 0, h2.symm⟩
        have hb1 := Ad.take_ok ⟨4, l, de, fr, co, av⟩ ⟨va, su, gr⟩ G 4 (by omega)
        rw [show Ad.take ⟨4, l, de, fr, co, av⟩ ⟨va, su, gr⟩ 4 = t from ht, hrr, hr'] at hb1
        obtain ⟨b1, b2, b3, b4, b5⟩ := hb1
        have HP : Hid ((Ad.part ⟨4, l, de, fr, co, av⟩ ⟨va, su, gr⟩ 4).setIfInBounds 6 (.int .i64 t) = Ad.part ⟨4, l, de, fr, co, av⟩ ⟨va, su, gr⟩ (4 + 1)) := Lib.hid (by rw [← ht]; rfl)
        have HR := Lib.hid hrr
        have HT := Lib.hid ht
        have HR' := Lib.hid hr'
        clear ht hrr hr' hk hk5 G
        go_upto_region 14 with (fail)
        go_cut [] (fun wx => Hid (Ad.Mid w ⟨4, l, de, fr, co, av⟩ ⟨va, su, gr⟩ (.slice A n c) 4 wr.heap.size (.pointer (some ⟨(w.heap.size + 1 + 1 + 1 + 1 + 1), 6, none⟩)) (.func (.func 25) #[] #[.pointer (some ⟨w.heap.size, 0, none⟩), .pointer (some ⟨(w.heap.size + 1 + 1 + 1 + 1 + 1 + 1), 0, none⟩)]) wx))
        case first =>
          go_region_with ((go_at_call 25; refine (C.out _ ?_).mono ?_; (intro b o hb; exact World.cell?_alloc_lt _ _ _ hb); rintro e w' ⟨rfl, m, rfl⟩))
          all_goals
            go_wp2
            go_meet
            case rel => exact Lib.hid (Ad.Mid.of_st ST.out _ _ 6 t _ HP.out)
        case rest =>
          clear hs0 hs1 ha haf C HP
          have m0 := hcut.out.me.cell 0
          have mt : wc.cell? ⟨(w.heap.size + 1 + 1 + 1 + 1 + 1), 6, none⟩ = some (.int .i64 t) := (hcut.out.a.cell 6).trans (by rw [← HT.out]; rfl)
          have m2 : wc.cell? ⟨(w.heap.size + 1 + 1 + 1 + 1 + 1 + 1), 0, none⟩ = _ := hcut.out.r.cell 0
          have m3 := hcut.out.r.free 0
          rw [HR.out] at m2
          simp only [List.getElem?_toArray, List.getElem?_cons_zero] at m0 m2
          have HS : Hid (∀ q, Ad.St w ⟨4, l, de, fr, co, av⟩ ⟨va, su, gr⟩ (.slice A n c) (4 + 1) ((wc.setCell ⟨(w.heap.size + 1 + 1 + 1 + 1 + 1 + 1), 0, none⟩ (.int .i64 r')).drewN q)) := Lib.hid fun q => by
            have := Ad.St.of_mid hcut.out q
            rw [HR'.out] at this
            exact this
          clear hcut HR HT HR'
          go_wp2
          go_region
          all_goals
            go_wp2
            go_roundw
            case rel => exact ⟨4 + 1, by omega, rfl, Lib.hid (HS.out _)⟩
            case measure => simp [intOf]
end Go.Proofs.Ytageedgbkaknnaa
