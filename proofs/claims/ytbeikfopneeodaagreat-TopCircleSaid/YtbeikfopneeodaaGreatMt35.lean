/- office.inform at the four postings of the example (printed by wip/gen/tdo.py). The second loop of office.inform: its state, and the marks that its ranges leave (printed by wip/gen/tdt.py). -/
import Derived.Test.YtbeikfopneeodaaGreatMt32
import Derived.Test.YtbeikfopneeodaaGreatMt34
import Derived.Deep.LoopGhost
namespace Go.Proofs.YtbeikfopneeodaaGreat
open Go.RowKit Go.Shelf
set_option linter.unusedVariables false
attribute [local go_sem] Oper.semAt_some

/-- an append of postings as a rewrite rule: its result and its world by name -/
def AppOk (W : World) (v x : Value) : Prop := ∃ r : Value × World, (Builtin.append_ #[62, 62] 62 #[v, x]).run Tryz.prog W = .ok r.1 r.2
open Classical in
noncomputable def appR (W : World) (v x : Value) : Value × World := if h : AppOk W v x then h.choose else (undef, W)
theorem app_run {W : World} {v x : Value} (h : AppOk W v x) : (Builtin.append_ #[62, 62] 62 #[v, x]).run Tryz.prog W = .ok (appR W v x).1 (appR W v x).2 := by
  unfold appR
  rw [dif_pos h]
  exact h.choose_spec
theorem app_is {W W' : World} {v x r : Value} (h : (Builtin.append_ #[62, 62] 62 #[v, x]).run Tryz.prog W = .ok r W') : AppOk W v x ∧ (appR W v x).1 = r ∧ (appR W v x).2 = W' := by
  have hok : AppOk W v x := ⟨(r, W'), h⟩
  have h2 := app_run hok
  rw [h] at h2
  injection h2 with h3 h4
  exact ⟨hok, h3.symm, h4.symm⟩
theorem exec_app {ev : Operand → Value} {d : Option Tmp} {s x : Operand} {pos : String} {af : Array Edge} {g : Option (Nat × Bool)} {w : World} (h : AppOk w (ev s) (ev x)) :
    (execOp ev { dst := d, op := .call { callee := .builtin .append, args := #[s, x], argTypes := #[62, 62] }, type := 62, pos := pos, after := af, guard := g }).run Tryz.prog w = .ok (.value (appR w (ev s) (ev x)).1) (appR w (ev s) (ev x)).2 := by
  have hrun := app_run h
  unfold execOp
  simp only [resolve, invoke, builtin, Sem.run_bind, Sem.run_pure, Result.andThen_ok, List.map_toArray, List.map_cons, List.map_nil, hrun]
attribute [local go_sem ↓] exec_app
theorem app_round {base : Nat} {u : World} (C : List Value) (hC : C.length = 7) (h1 : ∀ x ∈ C, x.oneCell' = true) (v : Value) (n : Nat) (xs : List Value) (hrow : u.ownsRow base 101 7 v n xs) (hn : n ≤ 100) (hb : base ≤ u.heap.size) :
    ∃ R c W, AppOk ((u.alloc (.cells C.toArray 101)).drew) v (.slice (some ⟨u.heap.size, 0, none⟩) 1 1) ∧ (appR ((u.alloc (.cells C.toArray 101)).drew) v (.slice (some ⟨u.heap.size, 0, none⟩) 1 1)).1 = .slice (some ⟨R, 0, none⟩) (n + 1) c ∧ (appR ((u.alloc (.cells C.toArray 101)).drew) v (.slice (some ⟨u.heap.size, 0, none⟩) 1 1)).2 = W ∧
      W.ownsRow base 101 7 (.slice (some ⟨R, 0, none⟩) (n + 1) c) (n + 1) (xs ++ C) ∧ Leaves (fun k => v.ownBlock = some k) u W ∧ (v.ownBlock = some R ∨ R = u.heap.size + 1) ∧ n + 1 ≤ c := by
  obtain ⟨i0, hi0, hz0, hz1, hz2⟩ := info_parts po_all
  have hcells : Cells ((u.alloc (.cells C.toArray 101)).drew) (u.heap.size + 1) (some ⟨u.heap.size, 0, none⟩) (1 * 7) (fun j => C.getD j undef) := fun _ => ⟨_, rfl, by simp, fun j hj => by
    rw [Go.WideShapes.add_plain, Nat.zero_add]
    refine ((Has.drew (Has.new u C.toArray 101)).cell j).trans ?_
    have hj : j < C.length := by omega
    simp [hj]⟩
  obtain ⟨vr, W, hrun, hown, hgrow, hat⟩ := run_append_cells (P := Tryz.prog) ((u.alloc (.cells C.toArray 101)).drew) base 62 62 101 i0 _ 7 56 Tryz.underlying62 hi0 hz0 hz1 hz2 rfl (by omega) v n xs ((hrow.alloc _).drew) (u.heap.size + 1) (some ⟨u.heap.size, 0, none⟩) 1 1 (fun j => C.getD j undef) hcells (fun e => by cases e) (fun j hj => by
    have hj : j < C.length := by omega
    have e : C.getD j undef = C[j] := by simp [hj]
    rw [e]
    exact h1 _ (List.getElem_mem _)) (by unfold maxLen; omega) (by omega) (by simp; omega)
  have hm : (List.range (1 * 7)).map (fun j => C.getD j undef) = C := by
    apply List.ext_getElem?
    intro j
    by_cases hj : j < C.length
    · simp [hj, show j < 7 by omega]
    · rw [List.getElem?_eq_none (by simp; omega), List.getElem?_eq_none (by omega)]
  rw [hm] at hown
  obtain ⟨R, c, hv, hc⟩ : ∃ R c, vr = .slice (some ⟨R, 0, none⟩) (n + 1) c ∧ n + 1 ≤ c := by
    rcases hown.2 with ⟨_, h0⟩ | ⟨g, cap, cur, hv, _, _, hle, _⟩
    · omega
    · exact ⟨g, cap, hv, hle⟩
  subst hv
  obtain ⟨hok, hav, haw⟩ := app_is hrun
  refine ⟨R, c, W, hok, hav, haw, hown, Leaves.grown (row := v.ownBlock) (((Leaves.refl (fun k => v.ownBlock = some k) u).alloc _).drew) hgrow (fun k hk => .inl hk), ?_, hc⟩
  rcases hat with h | h
  · exact .inl h.symm
  · exact .inr ((Option.some.inj h).trans (by simp))

/-- the rows by party: those of 0 and of 2 -/
def arr2 (a b : Value) : Array Value := #[a, .slice none 0 0, b, .slice none 0 0, .slice none 0 0, .slice none 0 0, .slice none 0 0, .slice none 0 0, .slice none 0 0, .slice none 0 0, .slice none 0 0, .slice none 0 0, .slice none 0 0, .slice none 0 0, .slice none 0 0, .slice none 0 0]
/-- the list of party 2 has one bordereau of two rows -/
def Done (O base : Nat) (w : World) : Prop := ∃ B cb C cc, Has w O (out2 (.slice (some ⟨B, 0, none⟩) 1 cb)) 75 ∧ w.cell? ⟨B, 3, none⟩ = some (.slice (some ⟨C, 0, none⟩) 2 cc) ∧ base ≤ B ∧ B < w.heap.size

/-- the four postings, and their parties -/
def poC : Nat → List Value
  | 0 => [.int .i64 1, .int .i64 0, .int .i64 1, .int .i64 0, .int .i64 0, .int .i64 7, .int .i64 15]
  | 1 => [.int .i64 2, .int .i64 0, .int .i64 1, .int .i64 1, .int .i64 2, .int .i64 7, .int .i64 15]
  | 2 => [.int .i64 3, .int .i64 0, .int .i64 2, .int .i64 0, .int .i64 0, .int .i64 7, .int .i64 35]
  | _ => [.int .i64 4, .int .i64 0, .int .i64 2, .int .i64 1, .int .i64 2, .int .i64 7, .int .i64 35]
def pt (k : Nat) : Nat := if k = 0 ∨ k = 2 then 0 else 2
theorem poC_form (k : Nat) (hk : k < 4) : ∃ q0 q1 q2 q3 q5 q6 : Int, poC k = [.int .i64 q0, .int .i64 q1, .int .i64 q2, .int .i64 q3, .int .i64 ((pt k : Nat) : Int), .int .i64 q5, .int .i64 q6] := by
  match k, hk with
  | 0, _ | 1, _ | 2, _ | 3, _ => exact ⟨_, _, _, _, _, _, rfl⟩
  | n + 4, h => exact absurd h (by omega)
theorem poAt_range {W : World} {g : Nat} (h : PoAt W g) (k : Nat) (hk : k < 4) : W.rangeAt g (k * 7) (poC k) := fun j v hv => by
  have hj : j < 7 := by
    match k, hk with
    | 0, _ | 1, _ | 2, _ | 3, _ => exact (List.getElem?_eq_some_iff.1 hv).1
    | n + 4, h => exact absurd h (by omega)
  rw [h.1 (k * 7 + j) (by omega)]
  match k, hk with
  | 0, _ | 1, _ | 2, _ | 3, _ =>
    match j, hj with
    | 0, _ | 1, _ | 2, _ | 3, _ | 4, _ | 5, _ | 6, _ => exact hv
    | n + 7, h => exact absurd h (by omega)
  | n + 4, h => exact absurd h (by omega)
def n0 (k : Nat) : Nat := (k + 1) / 2
def n2 (k : Nat) : Nat := k / 2
def xs0 : Nat → List Value
  | 0 => []
  | 1 | 2 => poC 0
  | _ => poC 0 ++ poC 2
def xs2 : Nat → List Value
  | 0 | 1 => []
  | 2 | 3 => poC 1
  | _ => poC 1 ++ poC 3
/-- how the first loop stands after k postings -/
def LR (base AR k : Nat) (W : World) : Prop := ∃ a b, Has W AR (arr2 a b) 115 ∧ W.ownsRow base 101 7 a (n0 k) (xs0 k) ∧ W.ownsRow base 101 7 b (n2 k) (xs2 k) ∧ ∀ x, a.ownBlock = some x → b.ownBlock ≠ some x
theorem own_ne_has {W : World} {base AR n x : Nat} {v : Value} {xs : List Value} {cs : Array Value} (h : W.ownsRow base 101 7 v n xs) (hv : v.ownBlock = some x) (hA : Has W AR cs 115) : x ≠ AR := fun e => by
  subst e
  rcases h.2 with ⟨h0, _⟩ | ⟨g, cap, cur, hg, _, hh, _⟩
  · rw [h0] at hv; cases hv
  · rw [hg] at hv
    injection hv with hv
    simp only at hv
    subst hv
    unfold Has at hA
    rw [hh] at hA
    injection hA with hA
    injection hA with _ hA _
    exact absurd hA (by decide)
theorem LR.next {base AR k : Nat} {W : World} (h : LR base AR k W) (hk : k < 4) : ∃ v n xs, W.cell? ⟨AR, pt k, none⟩ = some v ∧ W.ownsRow base 101 7 v n xs ∧ n ≤ 100 ∧ (∀ x, v.ownBlock = some x → x ≠ AR) ∧
    ∀ (u W1 : World) (R c : Nat), Below W.heap.size W u → Leaves (fun j => v.ownBlock = some j) u W1 → W1.ownsRow base 101 7 (.slice (some ⟨R, 0, none⟩) (n + 1) c) (n + 1) (xs ++ poC k) → (v.ownBlock = some R ∨ R = u.heap.size + 1) → LR base AR (k + 1) (W1.setCell ⟨AR, pt k, none⟩ (.slice (some ⟨R, 0, none⟩) (n + 1) c)) := by
  obtain ⟨a, b, hA, ha, hb, hab⟩ := h
  have hAl := hA.lt
  have hp : pt k = 0 ∨ pt k = 2 := by unfold pt; split <;> simp
  rcases hp with hp | hp
  · have hk0 : k = 0 ∨ k = 2 := by
      by_cases e : k = 0 ∨ k = 2
      · exact e
      · unfold pt at hp; rw [if_neg e] at hp; cases hp
    rw [hp]
    refine ⟨a, n0 k, xs0 k, hA.cell 0, ha, by unfold n0; omega, fun x hx => own_ne_has ha hx hA, fun u W1 R c hu hl ho hR => ?_⟩
    have hAu := hA.below hu hA.lt
    have hA1 := hAu.leaves hl (fun hc => own_ne_has ha hc hA rfl)
    have hbu := own_below hb hu
    have hb1 := own_leaves hbu hl (fun x hx hc => hab x hc hx)
    have hRA : R ≠ AR := own_ne_has ho rfl hA1
    have hl2 : Leaves (fun j => j = AR) W1 (W1.setCell ⟨AR, 0, none⟩ (.slice (some ⟨R, 0, none⟩) (n0 k + 1) c)) := (Leaves.refl (fun j => j = AR) _).at _ _
    refine ⟨_, b, hA1.put 0 _, ?_, ?_, fun x hx hbx => ?_⟩
    · have := own_row_leaves ho hl2 (by exact hRA)
      rcases hk0 with rfl | rfl <;> exact this
    · have := own_leaves hb1 hl2 (fun x hx (e : x = AR) => own_ne_has hb1 hx hA1 e)
      rcases hk0 with rfl | rfl <;> exact this
    · injection hx with hx
      simp only at hx
      subst hx
      rcases hR with hR | hR
      · exact hab R hR hbx
      · have := (own_lt hbu hbx).1
        omega
  · have hk0 : k = 1 ∨ k = 3 := by
      by_cases e : k = 0 ∨ k = 2
      · unfold pt at hp; rw [if_pos e] at hp; cases hp
      · omega
    rw [hp]
    refine ⟨b, n2 k, xs2 k, hA.cell 2, hb, by unfold n2; omega, fun x hx => own_ne_has hb hx hA, fun u W1 R c hu hl ho hR => ?_⟩
    have hAu := hA.below hu hA.lt
    have hA1 := hAu.leaves hl (fun hc => own_ne_has hb hc hA rfl)
    have hau := own_below ha hu
    have ha1 := own_leaves hau hl (fun x hx hc => hab x hx hc)
    have hRA : R ≠ AR := own_ne_has ho rfl hA1
    have hl2 : Leaves (fun j => j = AR) W1 (W1.setCell ⟨AR, 2, none⟩ (.slice (some ⟨R, 0, none⟩) (n2 k + 1) c)) := (Leaves.refl (fun j => j = AR) _).at _ _
    refine ⟨a, _, hA1.put 2 _, ?_, ?_, fun x hx hbx => ?_⟩
    · have := own_leaves ha1 hl2 (fun x hx (e : x = AR) => own_ne_has ha1 hx hA1 e)
      rcases hk0 with rfl | rfl <;> exact this
    · have := own_row_leaves ho hl2 (by exact hRA)
      rcases hk0 with rfl | rfl <;> exact this
    · injection hbx with hbx
      simp only at hbx
      subst hbx
      rcases hR with hR | hR
      · exact hab R hx hR
      · have := (own_lt hau hx).1
        omega
theorem LR.zero {base AR : Nat} {W : World} (h : Has W AR (arr2 (.slice none 0 0) (.slice none 0 0)) 115) : LR base AR 0 W := ⟨_, _, h, own_nil _ _ _ _, own_nil _ _ _ _, fun x hx => by cases hx⟩
theorem LR.four {base AR : Nat} {W : World} (h : LR base AR 4 W) : ∃ a R c, Has W AR (arr2 a (.slice (some ⟨R, 0, none⟩) 2 c)) 115 ∧ Cells W W.heap.size (some ⟨R, 0, none⟩) (2 * 7) (fun j => poR[j]!) ∧ 2 ≤ c ∧ base ≤ R ∧ R < W.heap.size ∧ R ≠ AR := by
  obtain ⟨a, b, hA, ha, hb, hab⟩ := h
  rcases Own.made (F := fun j => poR[j]!) hb (fun j hj => by
    have hj : j < 14 := hj
    match j, hj with
    | 0, _ | 1, _ | 2, _ | 3, _ | 4, _ | 5, _ | 6, _ | 7, _ | 8, _ | 9, _ | 10, _ | 11, _ | 12, _ | 13, _ => rfl
    | n + 14, h => exact absurd h (by omega)) with ⟨_, h0⟩ | ⟨R, c, hv, ho⟩
  · cases h0
  · subst hv
    exact ⟨a, R, c, hA, ho.cells, ho.len.1, ho.base_le, ho.lt, own_ne_has hb rfl hA⟩
end Go.Proofs.YtbeikfopneeodaaGreat
namespace Go.Proofs.YtbeikfopneeodaaGreat
open Go.RowKit Go.Shelf
set_option linter.unusedVariables false

def coll (D : Nat) : Deferred := { target := .collected D, args := #[] }
/-- the marks of ranges over functions that have ended -/
def Marks (n₀ : Nat) (Ds : List Nat) (W : World) : Prop := Ds.Nodup ∧ ∀ D ∈ Ds, n₀ ≤ D ∧ W.heap[D]? = some (.deferred (some []))
theorem heap_lt {W : World} {D : Nat} {o : Obj} (h : W.heap[D]? = some o) : D < W.heap.size := (Array.getElem?_eq_some_iff.1 h).1
theorem Marks.leaves {n₀ : Nat} {Ds : List Nat} {W W' : World} {S : Nat → Prop} (h : Marks n₀ Ds W) (hl : Leaves S W W') (hS : ∀ k, n₀ ≤ k → k < W.heap.size → ¬ S k) : Marks n₀ Ds W' :=
  ⟨h.1, fun D hD => ⟨(h.2 D hD).1, (hl.block D (heap_lt (h.2 D hD).2) (hS D (h.2 D hD).1 (heap_lt (h.2 D hD).2))).trans (h.2 D hD).2⟩⟩
theorem Marks.cons {n₀ D n₁ : Nat} {Ds : List Nat} {W : World} (h : Marks n₀ Ds W) (h1 : ∀ E ∈ Ds, E < n₁) (hD : n₁ ≤ D) (hn : n₀ ≤ n₁) (hd : W.heap[D]? = some (.deferred (some []))) : Marks n₀ (D :: Ds) W :=
  ⟨List.nodup_cons.2 ⟨fun hc => by have := h1 D hc; omega, h.1⟩, fun E hE => by
    rcases List.mem_cons.1 hE with rfl | hE
    · exact ⟨by omega, hd⟩
    · exact h.2 E hE⟩
theorem leaves_marks {n n₀ : Nat} {fn : Func} {tmps : Array Value} {R : Ending → World → Prop} : ∀ (Ds : List Nat) (W : World), Marks n₀ Ds W →
    (∀ W', Below n₀ W W' → (∀ (j : Nat) cs t fr, W.heap[j]? = some (.cells cs t fr) → W'.heap[j]? = some (.cells cs t fr)) → ∃ v, (results fn tmps).run Tryz.prog W' = .ok v W' ∧ R (.returned v) W') → LeavesInM Fence.wide n Tryz.prog fn tmps R (Ds.map coll) .returning W
  | [], W, _, h => h W (Below.refl _ _) (fun _ _ _ _ h => h)
  | D :: Ds, W, hm, h => by
    obtain ⟨hD0, hD⟩ := hm.2 D (List.mem_cons_self ..)
    have hlt := heap_lt hD
    have hb : Below n₀ W (W.putObj D (.deferred none)) := (Below.refl n₀ W).grown (grownBy_putObj' W D (.deferred none)) (by omega) (fun k e => by cases e; omega)
    refine ⟨by simp, .inl ⟨D, W.putObj D (.deferred none), rfl, run_takeDeferred hD, leaves_marks Ds _ ⟨(List.nodup_cons.1 hm.1).2, fun E hE => ⟨(hm.2 E (List.mem_cons_of_mem _ hE)).1, ?_⟩⟩ (fun W' hb' hc' => h W' (hb.trans hb') (fun j cs t fr hj => hc' j cs t fr (((grownBy_putObj' W D (.deferred none)).block j (heap_lt hj) (fun e => by injection e with e; subst e; rw [hD] at hj; cases hj)).trans hj)))⟩⟩
    have hne : E ≠ D := fun e => (List.nodup_cons.1 hm.1).1 (e ▸ hE)
    exact ((grownBy_putObj' W D (.deferred none)).block E (heap_lt (hm.2 E (List.mem_cons_of_mem _ hE)).2) (fun e => hne (Option.some.inj e))).trans (hm.2 E (List.mem_cons_of_mem _ hE)).2
theorem ownFrom_kp {β : Type} {O n₁ B : Nat} {W0 : World} (hn : n₁ ≤ B) : OwnFrom B (fun (_ : β) W => KpO O n₁ W0 W) := fun s W W' row h hg hr => Leaves.grown h hg (fun k hk => .inl (.inr (by have := (hr k hk).1; omega)))
theorem ownFrom_cell {β : Type} {B b j : Nat} {v : Value} : OwnFrom B (fun (_ : β) W => W.cell? ⟨b, j, none⟩ = some v) := fun s W W' row h0 hg hr => by
  have h : W.cell? ⟨b, j, none⟩ = some v := h0
  show W'.cell? ⟨b, j, none⟩ = some v
  have hlt : b < W.heap.size := cell_lt h
  have e : W'.heap[b]? = W.heap[b]? := hg.block b hlt (fun e => by
    obtain ⟨_, o, ho, hc⟩ := hr b e.symm
    unfold World.cell? at h
    simp only [ho] at h
    cases o <;> first | (cases hc; done) | (simp at h))
  unfold World.cell? at h ⊢
  simp only [e]
  exact h
theorem ownFrom_has {β : Type} {B b : Nat} {cs : Array Value} {t : TypeId} : OwnFrom B (fun (_ : β) W => Has W b cs t) := fun s W W' row h hg hr =>
  (hg.block b h.lt (fun e => by obtain ⟨_, o, ho, hc⟩ := hr b e.symm; rw [show W.heap[b]? = _ from h] at ho; cases ho; cases hc)).trans h
theorem ownFrom_done {β : Type} {B O base : Nat} : OwnFrom B (fun (_ : β) W => Done O base W) := fun s W W' row h hg hr => by
  obtain ⟨b, cb, C, cc, h1, h2, h3, h4⟩ := h
  exact ⟨b, cb, C, cc, ownFrom_has (β := Unit) () W W' row h1 hg hr, ownFrom_cell (β := Unit) () W W' row h2 hg hr, h3, Nat.lt_of_lt_of_le h4 hg.size⟩
theorem Done.below {O base : Nat} {W W' : World} (h : Done O base W) (hb : Below W.heap.size W W') : Done O base W' := by
  obtain ⟨b, cb, C, cc, h1, h2, h3, h4⟩ := h
  exact ⟨b, cb, C, cc, h1.below hb h1.lt, (hb.cell (p := ⟨b, 3, none⟩) h4).trans h2, h3, Nat.lt_of_lt_of_le h4 hb.size⟩
theorem Done.cells {O base : Nat} {W W' : World} (h : Done O base W) (hs : W.heap.size ≤ W'.heap.size) (hc : ∀ (j : Nat) cs t fr, W.heap[j]? = some (.cells cs t fr) → W'.heap[j]? = some (.cells cs t fr)) : Done O base W' := by
  obtain ⟨b, cb, C, cc, h1, h2, h3, h4⟩ := h
  refine ⟨b, cb, C, cc, hc _ _ _ _ h1, ?_, h3, Nat.lt_of_lt_of_le h4 hs⟩
  have h2' := h2
  unfold World.cell? at h2 ⊢
  cases hb : W.heap[b]? with
  | none => simp [hb] at h2
  | some o =>
    cases o with
    | cells cs t fr =>
      have e := hc b cs t fr hb
      simp only [hb] at h2
      simp only [e]
      exact h2
    | _ => simp [hb] at h2
theorem arr2_at {a b : Value} {k : Nat} (h1 : 1 ≤ k) (h2 : k < 16) (h3 : k ≠ 2) : (arr2 a b)[k]? = some (.slice none 0 0) := by
  match k, h1, h2, h3 with
  | 1, _, _, _ | 3, _, _, _ | 4, _, _, _ | 5, _, _, _ | 6, _, _, _ | 7, _, _, _ | 8, _, _, _ | 9, _, _, _ | 10, _, _, _ | 11, _, _, _ | 12, _, _, _ | 13, _, _, _ | 14, _, _, _ | 15, _, _, _ => rfl
  | 0, h, _, _ => exact absurd h (by omega)
  | 2, _, _, h => exact absurd rfl h
  | n + 16, _, h, _ => exact absurd h (by omega)

/-- what the loop keeps -/
structure InfS (base O n₀ k b : Nat) (Ds : List Nat) (W0 W : World) : Prop where
  bn : n₀ ≤ b
  box : Has W b #[.int .i64 k] 3
  marks : Marks n₀ Ds W
  kp : KpO O n₀ W0 W
  lo : k ≤ 2 → Has W O nil16 75
  hi : 3 ≤ k → Done O base W
/-- the head of a round -/
def InfI (base N X2 AR O n₀ : Nat) (W0 : World) (n : Nat) (a : Act) (W : World) : Prop :=
  ∃ (k b : Nat) (Ds : List Nat), (k + n = 16 ∧ 1 ≤ k) ∧ InfS base O n₀ k b Ds W0 W ∧ ∃ x1 x3 x5 x6 x8 x9 x10 x11 x12 x13 x14 x15 x16 x17 x18 x19 x20 x21 x22 x23 x24 x25 x26 x27 x28 x29 x30 x31 x32 x33 x34 x35 x36 x37 x38 x39 x40 x41 x42 x43 x44 x45 x46 x47 : Value, a = { tmps := #[.pointer (some ⟨N, 0, none⟩), x1, .pointer (some ⟨X2, 0, none⟩), x3, .pointer (some ⟨AR, 0, none⟩), x5, x6, .pointer (some ⟨b, 0, none⟩), x8, x9, x10, x11, x12, x13, x14, x15, x16, x17, x18, x19, x20, x21, x22, x23, x24, x25, x26, x27, x28, x29, x30, x31, x32, x33, x34, x35, x36, x37, x38, x39, x40, x41, x42, x43, x44, x45, x46, x47], defers := Ds.map coll }
end Go.Proofs.YtbeikfopneeodaaGreat
