/- commission.Profit: the account of one year. -/
import Derived.Test.YtedkdflecdggpaaCoP1
import Derived.Test.YtedkdflecdggpaaLeav
import Derived.Deep.RegionHeld3
import Derived.Deep.DeepCutAuto
import Derived.Outline
namespace Go.Proofs.Ytedkdflecdggpaa
open Go.RowKit
set_option linter.unusedVariables false

/-- what Profit's functions share: terms, and the deficits v -/
structure PEnv (w : World) (bs be bd bc br bf : Nat) (x : Int) (c : Nat) (rt : Int) (v : Value) : Prop where
  sh : Has w bs #[.func (.func 34) #[] #[.pointer (some ⟨bf, 0, none⟩)]] 34
  ex : Has w be #[.int .i64 x] 3
  ca : Has w bc #[.int .i64 c] 3
  ra : Has w br #[.int .i64 rt] 3
  fa : Has w bf #[.int .i64 0] 27
  de : Has w bd #[v] 23
/-- where they lie -/
structure PLie (base bs be bd bc br bf : Nat) : Prop where
  ls : bs < base
  le : be < base
  ld : bd < base
  lc : bc < base
  lr : br < base
  lf : bf < base
  ns : bs ≠ bd
  ne : be ≠ bd
  nc : bc ≠ bd
  nr : br ≠ bd
  nf : bf ≠ bd

section
variable {w w' : World} {base bs be bd bc br bf : Nat} {x : Int} {c : Nat} {rt : Int} {v u : Value}
theorem PEnv.below (h : PEnv w bs be bd bc br bf x c rt v) (l : PLie base bs be bd bc br bf) (hb : Below base w w') : PEnv w' bs be bd bc br bf x c rt v :=
  ⟨h.sh.below hb l.ls, h.ex.below hb l.le, h.ca.below hb l.lc, h.ra.below hb l.lr, h.fa.below hb l.lf, h.de.below hb l.ld⟩
theorem PEnv.put (h : PEnv w bs be bd bc br bf x c rt v) (l : PLie base bs be bd bc br bf) (u : Value) : PEnv (w.setCell ⟨bd, 0, none⟩ u) bs be bd bc br bf x c rt u :=
  ⟨h.sh.far l.ns _, h.ex.far l.ne _, h.ca.far l.nc _, h.ra.far l.nr _, h.fa.far l.nf _, h.de.put 0 u⟩
end

/-- the last elements of the deficits -/
def LastV (v : Value) (n c : Nat) (w : World) (e : Ending) (w' : World) : Prop :=
  ∃ (A' : Option Addr) (c' : Nat), e = .returned (.slice A' (n - (n - c)) c') ∧ (0 < n - (n - c) → ∃ g cap, v = .slice (some ⟨g, 0, none⟩) n cap ∧ A' = some ⟨g, n - c, none⟩) ∧ w = w'
theorem last_any {base n c : Nat} {v : Value} {xs : List Value} {w : World} (h : w.ownsRow base 3 1 v n xs) (hn : n ≤ 100) (hc : c ≤ 20) : Calls Try.prog 38 #[v, .int .i64 c] w (LastV v n c w) := by
  rcases h.2 with ⟨rfl, rfl⟩ | ⟨g, cap, cur, rfl, hg, hh, hr, _⟩
  · refine (last_nil c w hc).mono ?_
    rintro e w' ⟨A', c', he, h1, hw⟩
    exact ⟨A', c', he, (fun h => by obtain ⟨_, h2, _⟩ := h1 h; cases h2), hw⟩
  · refine (last_some g n cap c w hn hr hc).mono ?_
    rintro e w' ⟨A', c', he, h1, hw⟩
    exact ⟨A', c', he, (fun h => by obtain ⟨g', h2, h3⟩ := h1 h; injection h2 with h2; injection h2 with h2; subst h2; exact ⟨g, cap, rfl, h3⟩), hw⟩

/-- what holds while a deficit is set off: the account lies in block bp, the result's cell in block bq -/
structure PMid (w0 w : World) (base bs be bd bc br bf : Nat) (x : Int) (c : Nat) (rt : Int) (v : Value) (bp bq : Nat) (ac : Array Value) (n : Nat) (D : Nat → Int) : Prop where
  env : PEnv w bs be bd bc br bf x c rt v
  own : w.ownsRow base 3 1 v n (numsL n D)
  acc : Has w bp ac 42
  out : Has w bq #[.int .i64 0, .int .i64 0, .int .i64 0, .int .i64 0] 42
  lv : Leaves (fun k => k = bd ∨ v.ownBlock = some k) w0 w
  sz : w0.heap.size ≤ bq ∧ bq < bp
  hv : ∀ k, v.ownBlock = some k → base ≤ k ∧ k < w0.heap.size
  lie : PLie base bs be bd bc br bf
  b0 : base ≤ w0.heap.size

section
variable {w0 w w' : World} {base bs be bd bc br bf : Nat} {x : Int} {c : Nat} {rt : Int} {v : Value} {bp bq : Nat} {ac : Array Value} {n : Nat} {D D' : Nat → Int}
theorem PMid.below (h : PMid w0 w base bs be bd bc br bf x c rt v bp bq ac n D) (hb : Below w.heap.size w w') : PMid w0 w' base bs be bd bc br bf x c rt v bp bq ac n D :=
  have hs := h.lv.size
  ⟨h.env.below h.lie (hb.mono (Nat.le_trans h.b0 hs)), own_below h.own hb, h.acc.below hb h.acc.lt, h.out.below hb h.out.lt, h.lv.step hb, h.sz, h.hv, h.lie, h.b0⟩
theorem PMid.drewN (h : PMid w0 w base bs be bd bc br bf x c rt v bp bq ac n D) (k : Nat) : PMid w0 (w.drewN k) base bs be bd bc br bf x c rt v bp bq ac n D := h.below (below_drewN (Below.refl _ _) k)
theorem PMid.congr (h : PMid w0 w base bs be bd bc br bf x c rt v bp bq ac n D) (e : ∀ j, j < n → D j = D' j) : PMid w0 w base bs be bd bc br bf x c rt v bp bq ac n D' :=
  ⟨h.env, by rw [← numsL_congr e]; exact h.own, h.acc, h.out, h.lv, h.sz, h.hv, h.lie, h.b0⟩
theorem PMid.putAcc (h : PMid w0 w base bs be bd bc br bf x c rt v bp bq ac n D) (j : Nat) (u : Value) : PMid w0 (w.setCell ⟨bp, j, none⟩ u) base bs be bd bc br bf x c rt v bp bq (ac.setIfInBounds j u) n D := by
  obtain ⟨s1, s2⟩ := h.sz
  have b0 := h.b0
  have hL : Leaves (fun k => k = bp) w (w.setCell ⟨bp, j, none⟩ u) := Leaves.one _ _ _ _
  exact ⟨h.env.below h.lie (hL.below (fun k hk => by omega) (Nat.le_trans b0 h.lv.size)), own_leaves h.own hL (fun k hk e => by have := h.hv k hk; omega), h.acc.put j u, h.out.far (by simp only; omega) u, h.lv.put (.inr (by simp only; omega)) u, h.sz, h.hv, h.lie, h.b0⟩
theorem PMid.putOwn {g cap : Nat} (h : PMid w0 w base bs be bd bc br bf x c rt (.slice (some ⟨g, 0, none⟩) n cap) bp bq ac n D) (j : Nat) (z : Int) :
    PMid w0 (w.setCell ⟨g, j, none⟩ (.int .i64 z)) base bs be bd bc br bf x c rt (.slice (some ⟨g, 0, none⟩) n cap) bp bq ac n (fun t => if t = j then z else D t) := by
  obtain ⟨s1, s2⟩ := h.sz
  have hg := h.hv g rfl
  have hL : Leaves (fun k => k = g) w (w.setCell ⟨g, j, none⟩ (.int .i64 z)) := Leaves.one _ _ _ _
  exact ⟨h.env.below h.lie (hL.below (fun k hk => by omega) (Nat.le_trans h.b0 h.lv.size)), OwnN.put h.own j z, h.acc.far (by simp only; omega) _, h.out.far (by simp only; omega) _, Leaves.put (p := ⟨g, j, none⟩) h.lv (.inl (.inr rfl)) _, h.sz, h.hv, h.lie, h.b0⟩
end

/-- the same, after the deficit of the year was added -/
structure PEnd (w0 w : World) (base bs be bd bc br bf : Nat) (x : Int) (c : Nat) (rt : Int) (v v' : Value) (bp bq : Nat) (ac oc : Array Value) (n : Nat) (D : Nat → Int) : Prop where
  env : PEnv w bs be bd bc br bf x c rt v'
  own : w.ownsRow base 3 1 v' n (numsL n D)
  acc : Has w bp ac 42
  out : Has w bq oc 42
  lv : Leaves (fun k => k = bd ∨ v.ownBlock = some k) w0 w
  sz : w0.heap.size ≤ bq ∧ bq < bp
  fr : ∀ k, v'.ownBlock = some k → k ≠ bp ∧ k ≠ bq
  hv : v'.ownBlock = v.ownBlock ∨ ∃ k, w0.heap.size ≤ k ∧ v'.ownBlock = some k
  lie : PLie base bs be bd bc br bf
  b0 : base ≤ w0.heap.size
section
variable {w0 w w' : World} {base bs be bd bc br bf : Nat} {x : Int} {c : Nat} {rt : Int} {v v' : Value} {bp bq : Nat} {ac oc : Array Value} {n : Nat} {D D' : Nat → Int}
theorem PEnd.putAcc (h : PEnd w0 w base bs be bd bc br bf x c rt v v' bp bq ac oc n D) (j : Nat) (u : Value) : PEnd w0 (w.setCell ⟨bp, j, none⟩ u) base bs be bd bc br bf x c rt v v' bp bq (ac.setIfInBounds j u) oc n D := by
  obtain ⟨s1, s2⟩ := h.sz
  have b0 := h.b0
  have hL : Leaves (fun k => k = bp) w (w.setCell ⟨bp, j, none⟩ u) := Leaves.one _ _ _ _
  exact ⟨h.env.below h.lie (hL.below (fun k hk => by omega) (Nat.le_trans b0 h.lv.size)), own_leaves h.own hL (fun k hk e => (h.fr k hk).1 e), h.acc.put j u, h.out.far (by simp only; omega) u, h.lv.put (.inr (by simp only; omega)) u, h.sz, h.fr, h.hv, h.lie, h.b0⟩
theorem PEnd.putOut (h : PEnd w0 w base bs be bd bc br bf x c rt v v' bp bq ac oc n D) (j : Nat) (u : Value) : PEnd w0 (w.setCell ⟨bq, j, none⟩ u) base bs be bd bc br bf x c rt v v' bp bq ac (oc.setIfInBounds j u) n D := by
  obtain ⟨s1, s2⟩ := h.sz
  have b0 := h.b0
  have hL : Leaves (fun k => k = bq) w (w.setCell ⟨bq, j, none⟩ u) := Leaves.one _ _ _ _
  exact ⟨h.env.below h.lie (hL.below (fun k hk => by omega) (Nat.le_trans b0 h.lv.size)), own_leaves h.own hL (fun k hk e => (h.fr k hk).2 e), h.acc.far (by simp only; omega) u, h.out.put j u, h.lv.put (.inr (by simp only; omega)) u, h.sz, h.fr, h.hv, h.lie, h.b0⟩
/-- the deficits' cell, after the list has grown -/
theorem PMid.cellD {w4 : World} {o : Obj} (h : PMid w0 w base bs be bd bc br bf x c rt v bp bq ac n D) (hg : (w.alloc o).grownBy w4 v.ownBlock) : Has w4 bd #[v] 23 := by
  have b0 := h.b0
  have hl := h.lv.size
  have hL : Leaves (fun k => v.ownBlock = some k) w w4 := ((Leaves.refl _ w).alloc o).grown hg fun k hk => .inl hk
  exact (h.env.below h.lie (hL.below (fun k hk => (h.hv k hk).1) (by omega))).de
/-- the deficits' new list is stored -/
theorem PMid.close {g cap : Nat} {w4 : World} {o : Obj} (h : PMid w0 w base bs be bd bc br bf x c rt v bp bq ac n D) (hown : w4.ownsRow base 3 1 (.slice (some ⟨g, 0, none⟩) (n + 1) cap) (n + 1) (numsL (n + 1) D')) (hg : (w.alloc o).grownBy w4 v.ownBlock) (hat : v.ownBlock = some g ∨ g = w.heap.size + 1) :
    PEnd w0 (w4.setCell ⟨bd, 0, none⟩ (.slice (some ⟨g, 0, none⟩) (n + 1) cap)) base bs be bd bc br bf x c rt v (.slice (some ⟨g, 0, none⟩) (n + 1) cap) bp bq ac #[.int .i64 0, .int .i64 0, .int .i64 0, .int .i64 0] (n + 1) D' := by
  obtain ⟨s1, s2⟩ := h.sz
  have b0 := h.b0
  have hl := h.lv.size
  have hld := h.lie.ld
  have hpl := h.acc.lt
  have hL : Leaves (fun k => v.ownBlock = some k) w w4 := ((Leaves.refl _ w).alloc o).grown hg fun k hk => .inl hk
  have hE : PEnv w4 bs be bd bc br bf x c rt v := h.env.below h.lie (hL.below (fun k hk => (h.hv k hk).1) (by omega))
  have hgd : g ≠ bd := by
    rcases hat with e | e
    · have := (h.hv g e).1; omega
    · omega
  have hL2 : Leaves (fun k => k = bd) w4 (w4.setCell ⟨bd, 0, none⟩ (.slice (some ⟨g, 0, none⟩) (n + 1) cap)) := Leaves.one _ _ _ _
  have hac := h.acc.leaves hL (fun e => by have := (h.hv _ e).2; omega)
  have hou := h.out.leaves hL (fun e => by have := (h.hv _ e).2; omega)
  refine ⟨hE.put h.lie _, own_leaves hown hL2 (fun k hk e => by simp only [Value.ownBlock, Option.some.injEq] at hk; omega), hac.far (by simp only; omega) _, hou.far (by simp only; omega) _, ((h.lv.trans' hL fun _ _ e => .inr e)).put (.inl (.inl rfl)) _, h.sz, ?_, ?_, h.lie, h.b0⟩
  · intro k hk
    simp only [Value.ownBlock, Option.some.injEq] at hk
    subst hk
    rcases hat with e | e
    · have := (h.hv g e).2; omega
    · have := h.out.lt; omega
  · rcases hat with e | e
    · exact .inl (by rw [e]; rfl)
    · exact .inr ⟨g, by omega, rfl⟩
end

/-- what the function of a year returns -/
def P2Post (base bs be bd bc br bf : Nat) (x : Int) (c : Nat) (rt : Int) (v : Value) (n : Nat) (D : Nat → Int) (z : Nat → Int) (w : World) (e : Ending) (w' : World) : Prop :=
  e = .returned (.agg #[.int .i64 (z 0), .int .i64 (z 1), .int .i64 (z 2), .int .i64 (z 3)]) ∧ ∃ v', PEnv w' bs be bd bc br bf x c rt v' ∧ w'.ownsRow base 3 1 v' n (numsL n D) ∧
    Leaves (fun k => k = bd ∨ v.ownBlock = some k) w w' ∧ (v'.ownBlock = v.ownBlock ∨ ∃ k, w.heap.size ≤ k ∧ v'.ownBlock = some k)

theorem p2_out (W : World) (b : Nat) (z0 z1 z2 z3 : Int) (tmps : Array Value) (h : Has W b #[.int .i64 z0, .int .i64 z1, .int .i64 z2, .int .i64 z3] 42) (ht : tmps.getD 7 undef = .pointer (some ⟨b, 0, none⟩)) :
    (results Try.f37 tmps).run Try.prog W = .ok (.agg #[.int .i64 z0, .int .i64 z1, .int .i64 z2, .int .i64 z3]) W := by
  have c0 := h.cell 0
  have c1 := h.cell 1
  have c2 := h.cell 2
  have c3 := h.cell 3
  simp only [List.getElem?_toArray, List.getElem?_cons_zero, List.getElem?_cons_succ] at c0 c1 c2 c3
  have ht' : tmps[7]?.getD undef = .pointer (some ⟨b, 0, none⟩) := by simpa using ht
  simp [results, Try.results37, go_sem, ht', c0, c1, c2, c3]

set_option maxRecDepth 100000 in
set_option maxHeartbeats 4000000 in
theorem year_any (p l : Nat → Int) (i : Nat) (base bs be bd bc br bf : Nat) (x : Int) (c : Nat) (rt : Int) (v : Value) (w : World) (hl : PLie base bs be bd bc br bf) (hbase : base ≤ w.heap.size) (hx : Co.rateP x) (hrt : Co.rateP rt) (hc : c ≤ 20) (hi : i ≤ 20)
    (hy : ∀ k, k < i + 1 → Co.yearP p l k) (henv : PEnv w bs be bd bc br bf x c rt v) (hown : w.ownsRow base 3 1 v i (numsL i (Co.defs p l x c i))) :
    Calls Try.prog 37 #[.agg #[.int .i64 (p i), .int .i64 (l i)], .pointer (some ⟨bs, 0, none⟩), .pointer (some ⟨be, 0, none⟩), .pointer (some ⟨bd, 0, none⟩), .pointer (some ⟨bc, 0, none⟩), .pointer (some ⟨br, 0, none⟩)] w
      (P2Post base bs be bd bc br bf x c rt v (i + 1) (Co.defs p l x c (i + 1)) (Co.acct p l x rt c i) w) := by
  have hyi := hy i (by omega)
  have CS := Lib.hid fun W : World => cshare_any (p i) x bf W hyi.1 ⟨hx.1, by have := hx.2; omega⟩
  have hres := Co.res_bound hyi hx
  have HRES : Hid (Co.res p l x i = p i - l i - Co.part (p i) x) := Lib.hid rfl
  have hpp := Co.part_le hyi.1.1 hx.1 hx.2
  obtain ⟨q, hq⟩ : ∃ q, Co.part (p i) x = q := ⟨_, rfl⟩
  obtain ⟨r, hr⟩ : ∃ r, Co.res p l x i = r := ⟨_, rfl⟩
  obtain ⟨pi, hpi⟩ : ∃ q, p i = q := ⟨_, rfl⟩
  obtain ⟨li, hli⟩ : ∃ q, l i = q := ⟨_, rfl⟩
  obtain ⟨⟨y0, y1⟩, y2, y3⟩ := hyi
  rw [hq] at CS
  rw [hq, hr, hpi, hli] at HRES
  rw [hq, hpi] at hpp
  rw [hr] at hres
  rw [hpi] at CS y0 y1 ⊢
  rw [hli] at y2 y3 ⊢
  have HENV := Lib.hid henv
  have HOWN := Lib.hid hown
  obtain ⟨E, hE⟩ : ∃ E, Co.defs p l x c (i + 1) = E := ⟨_, rfl⟩
  obtain ⟨Z, hZ⟩ : ∃ E, Co.acct p l x rt c i = E := ⟨_, rfl⟩
  rw [hE, hZ]
  have HEE := Lib.hid hE
  have HZZ := Lib.hid hZ
  clear hE hZ
  have HL := Lib.hid hl
  have HR := Lib.hid hr
  have hw1 : IntKind.i64.wrap (pi - li) = pi - li := by rw [IntKind.wrap_i64]; omega
  have hw2 : IntKind.i64.wrap (pi - li - q) = r := by rw [HRES.out, IntKind.wrap_i64]; omega
  obtain ⟨a0, a1, a2⟩ := henv.sh.rules
  obtain ⟨b0, b1, b2⟩ := henv.ex.rules
  clear henv hown hl hq hr hpi hli
  go_enter Try.func37, Try.ntmps37
  go_upto_region 1 with (fail)
  obtain ⟨W, hW⟩ : ∃ W, (w.alloc (.cells #[.int .i64 pi, .int .i64 li] 56)).alloc (.cells #[.int .i64 0, .int .i64 0, .int .i64 0, .int .i64 0] 42) = W := ⟨_, rfl⟩
  have hb1 : Below w.heap.size w W := by rw [← hW]; exact ((Below.refl _ _).alloc (Nat.le_refl _) _).alloc (by simp) _
  have HY : Hid (Has W w.heap.size #[.int .i64 pi, .int .i64 li] 56) := Lib.hid (by rw [← hW]; exact (Has.new w _ _).alloc _)
  have HO : Hid (Has W (w.heap.size + 1) #[.int .i64 0, .int .i64 0, .int .i64 0, .int .i64 0] 42) := Lib.hid (by rw [← hW]; exact Has.new' _ _ _ _ (by simp))
  have HB : Hid (Below w.heap.size w W) := Lib.hid hb1
  replace HENV := Lib.hid (HENV.out.below HL.out (hb1.mono hbase))
  have HV : Hid (∀ k, v.ownBlock = some k → base ≤ k ∧ k < w.heap.size) := Lib.hid fun k hk => by have := own_lt HOWN.out hk; omega
  replace HOWN := Lib.hid (own_below HOWN.out hb1)
  have hsW : W.heap.size = w.heap.size + 1 + 1 := by rw [← hW]; simp
  obtain ⟨B, hB⟩ : ∃ B, w.heap.size = B := ⟨_, rfl⟩
  have HSW := Lib.hid hsW
  rw [hW, hB]
  rw [hB] at HY HO HSW hbase
  have HBB := Lib.hid hB
  clear hW hb1 hsW hB a0 a1 a2 b0 b1 b2
  obtain ⟨a0, a1, a2⟩ := HENV.out.sh.rules
  obtain ⟨b0, b1, b2⟩ := HENV.out.ex.rules
  obtain ⟨d0, d1, d2⟩ := HY.out.rules
  have hc1 := a0 0
  have hc2 := b0 0
  have hc3 := d0 0
  have hc4 := d0 1
  simp only [List.getElem?_toArray, List.getElem?_cons_zero, List.getElem?_cons_succ] at hc1 hc2 hc3 hc4
  clear a0 a1 b0 b1 d0 d1
  have hdn : ∀ k o, (W.drewN k).alloc o = (W.alloc o).drewN k := fun _ _ => rfl
  have n1 := World.new_ne W ⟨bs, 0, none⟩ hc1
  have n2 := World.new_ne W ⟨be, 0, none⟩ hc2
  have n3 := World.new_ne W ⟨B, 0, none⟩ hc3
  have n4 := World.new_ne W ⟨B, 1, none⟩ hc4
  have HM : Hid (∀ k, PMid w (((((((W.alloc (.cells #[.int .i64 0, .int .i64 0, .int .i64 0, .int .i64 0] 42)).drewN k).setCell ⟨W.heap.size, 0, none⟩ (.int .i64 0)).setCell ⟨W.heap.size, 1, none⟩ (.int .i64 r)).setCell ⟨W.heap.size, 2, none⟩ (.int .i64 0)).setCell ⟨W.heap.size, 3, none⟩ (.int .i64 0))) base bs be bd bc br bf x c rt v W.heap.size (B + 1) #[.int .i64 0, .int .i64 r, .int .i64 0, .int .i64 0] i (Co.defs p l x c i)) := Lib.hid fun k => by
    have hb2 : Below W.heap.size W (((((((W.alloc (.cells #[.int .i64 0, .int .i64 0, .int .i64 0, .int .i64 0] 42)).drewN k).setCell ⟨W.heap.size, 0, none⟩ (.int .i64 0)).setCell ⟨W.heap.size, 1, none⟩ (.int .i64 r)).setCell ⟨W.heap.size, 2, none⟩ (.int .i64 0)).setCell ⟨W.heap.size, 3, none⟩ (.int .i64 0))) := ((((below_drewN ((Below.refl _ _).alloc (Nat.le_refl _) _) _).setCell (Nat.le_refl _) _).setCell (Nat.le_refl _) _).setCell (Nat.le_refl _) _).setCell (Nat.le_refl _) _
    have hsz := HB.out.size
    have hbb := HBB.out
    exact ⟨HENV.out.below HL.out (hb2.mono (by omega)), own_below HOWN.out hb2, (((((Has.new W _ _).drewN k).put 0 _).put 1 _).put 2 _).put 3 _, HO.out.below hb2 HO.out.lt, ((Leaves.refl _ w).step HB.out).step hb2, ⟨by omega, HO.out.lt⟩, HV.out, HL.out, by omega⟩
  go_cut [8] (fun p8 wx => p8 = .pointer (some ⟨W.heap.size, 0, none⟩) ∧ Hid (PMid w wx base bs be bd bc br bf x c rt v W.heap.size (B + 1) #[.int .i64 0, .int .i64 r, .int .i64 0, .int .i64 0] i (Co.defs p l x c i)))
  case first =>
    clear HENV HY HO HB HOWN HL HV
    go_region_held3 (fun w' => w'.cell? ⟨B, 0, none⟩ = some (.int .i64 pi) ∧ w'.cell? ⟨B, 1, none⟩ = some (.int .i64 li) ∧ w'.cell? ⟨bs, 0, none⟩ = some (.func (.func 34) #[] #[.pointer (some ⟨bf, 0, none⟩)]) ∧ w'.cell? ⟨be, 0, none⟩ = some (.int .i64 x)) (go_keep) (first
      | (go_at_call 34; refine (CS.out _).mono ?_; rintro e w' ⟨rfl, nq, rfl⟩))
    all_goals
      go_wp2_with fail
      go_meet
      case rel => exact ⟨rfl, Lib.hid (HM.out _)⟩
  case rest =>
    obtain ⟨rfl, HP⟩ := hcut
    obtain ⟨P, hP⟩ : ∃ P, W.heap.size = P := ⟨_, rfl⟩
    rw [hP] at HP ⊢
    clear hP HM HSW HY HO HB HOWN HENV CS HRES hw1 hw2 y0 y1 y2 y3 hpp a2 b2 d2 n1 n2 n3 n4 hdn hc1 hc2 hc3 hc4
    obtain ⟨s, hs⟩ : ∃ s, i - c = s := ⟨_, rfl⟩
    obtain ⟨k, hk⟩ : ∃ k, i - s = k := ⟨_, rfl⟩
    obtain ⟨R, hR⟩ : ∃ R, max 0 r = R := ⟨_, rfl⟩
    have hDB := Co.defs_bound (c := c) hx i fun k hk => hy k (by omega)
    have HDB := Lib.hid hDB
    have HBR : Hid (Co.brought p l x c i = Co.sumr (Co.defs p l x c i) s k) := Lib.hid (by rw [Co.brought, hs, hk])
    have HLE : Hid (Co.left p l x c i = Co.rest (Co.defs p l x c i) s R k) := Lib.hid (by rw [Co.left, HR.out, hR, hs, hk])
    have HDS : Hid (∀ j, Co.defs p l x c (i + 1) j = if j = i then max 0 (-r) else Co.offs (Co.defs p l x c i) s R k j) := Lib.hid fun j => by rw [Co.defs, HR.out, hR, hs, hk]
    have HLB := Lib.hid (Co.left_bound (c := c) hx (fun k hk => hy k hk))
    have CL : Hid (∀ wx : World, PMid w wx base bs be bd bc br bf x c rt v P (B + 1) #[.int .i64 0, .int .i64 r, .int .i64 0, .int .i64 0] i (Co.defs p l x c i) → Calls Try.prog 38 #[v, .int .i64 c] wx (LastV v i c wx)) := Lib.hid fun wx h => last_any h.own (by omega) hc
    unfold LastV at CL
    rw [hs, hk] at CL
    have HSK : Hid (i - c = s ∧ i - s = k) := Lib.hid ⟨hs, hk⟩
    have hsk : s + k ≤ i := by omega
    have hk20 : k ≤ 20 := by omega
    have HRR := Lib.hid hR
    clear hs hk hR hDB
    have HD1 : Hid (∀ j, 0 ≤ Co.defs p l x c (i + 1) j ∧ Co.defs p l x c (i + 1) j ≤ 68719476736) := Lib.hid (Co.defs_bound (c := c) hx (i + 1) hy)
    have HAC : Hid (Co.acct p l x rt c i 0 = Co.sumr (Co.defs p l x c i) s k ∧ Co.acct p l x rt c i 1 = r ∧ Co.acct p l x rt c i 2 = Co.part (Co.rest (Co.defs p l x c i) s R k) rt ∧ Co.acct p l x rt c i 3 = Co.carried p l x c i) := Lib.hid ⟨HBR.out, HR.out, by show Co.comm p l x c rt i = _; rw [Co.comm, HLE.out], rfl⟩
    rw [HLE.out] at HLB
    obtain ⟨D, hD⟩ : ∃ D, Co.defs p l x c i = D := ⟨_, rfl⟩
    have HCA : Hid (Co.carried p l x c i = Co.sumr E (i + 1 - c) (i + 1 - (i + 1 - c))) := Lib.hid (by rw [Co.carried, HEE.out])
    rw [hD] at HDB HDS HAC HP CL HLB
    rw [HEE.out] at HDS HD1
    rw [HZZ.out, HCA.out] at HAC
    clear HBR HLE hD hy HR HCA
    obtain ⟨a0, a1, a2⟩ := HP.out.env.de.rules
    obtain ⟨b0, b1, b2⟩ := HP.out.env.ca.rules
    obtain ⟨d0, d1, d2⟩ := HP.out.acc.rules
    go_wp2_with fail
    refine (CL.out _ HP.out).mono ?_
    rintro e w' ⟨A', c', rfl, hA', rfl⟩
    have HA := Lib.hid hA'
    have HNU : Hid (∀ wx : World, PMid w wx base bs be bd bc br bf x c rt v P (B + 1) #[.int .i64 0, .int .i64 r, .int .i64 0, .int .i64 0] i D → Nums wx wx.heap.size A' k (fun j => D (s + j))) := Lib.hid fun wx h hk0 => by
      obtain ⟨g, cap, hv, hA⟩ := HA.out hk0
      have ho := h.own
      rw [hv] at ho
      exact ⟨_, hA, OwnN.lt ho, fun j hj => by rw [Go.WideShapes.add_plain]; exact OwnN.cell ho (s + j) (by omega)⟩
    clear hA' CL
    go_wp2_with fail
    refine (csum_any A' k c' _ _ _ (by omega) (fun j => HDB.out (s + j)) (HNU.out _ HP.out)).mono ?_
    rintro e w' ⟨rfl, rfl⟩
    rw [Co.sumr_shift]
    obtain ⟨z0, hz0⟩ : ∃ z, Co.sumr D s k = z := ⟨_, rfl⟩
    rw [hz0] at HAC ⊢
    clear hz0
    go_wp2_with fail
    rw [HRR.out]
    obtain ⟨W1, hW1⟩ : ∃ W1, wc.setCell ⟨P, 0, none⟩ (.int .i64 z0) = W1 := ⟨_, rfl⟩
    have HQ : Hid (PMid w W1 base bs be bd bc br bf x c rt v P (B + 1) #[.int .i64 z0, .int .i64 r, .int .i64 0, .int .i64 0] i (Co.offs D s R 0)) := Lib.hid (by rw [← hW1]; exact (HP.out.putAcc 0 _).congr fun j _ => (Co.offs_zero D s R j).symm)
    rw [hW1]
    have hR0 : 0 ≤ R ∧ R ≤ 68719476736 := by have := HRR.out; omega
    obtain ⟨R0, R1⟩ := hR0
    clear hW1 HP HNU a0 a1 a2 b0 b1 b2 d0 d1 d2
    go_loopw [10, 11, 12, 13, 37] (fun lf _ _ _ ix wr => ∃ kk : Nat, kk ≤ k ∧ ix = .int .i64 kk ∧ lf = .int .i64 (Co.rest D s R kk) ∧ Hid (PMid w wr base bs be bd bc br bf x c rt v P (B + 1) #[.int .i64 z0, .int .i64 r, .int .i64 0, .int .i64 0] i (Co.offs D s R kk))) (fun _ _ _ _ ix _ => k - (intOf ix).toNat)
    case atStart => exact ⟨0, Nat.zero_le _, rfl, rfl, HQ⟩
    case round =>
      clear HQ
      obtain ⟨kk, hkk, rfl, rfl, HQ⟩ := hrel
      have hrb := Co.rest_bound (D := D) (s := s) R0 (fun j => (HDB.out j).1) kk
      by_cases hlt : kk < k
      · obtain ⟨g, cap, hv, hA'⟩ := HA.out (by omega)
        subst hv
        subst hA'
        have hq0 := OwnN.cell HQ.out.own (s + kk) (by omega)
        have hq1 := OwnN.free HQ.out.own (s + kk)
        rw [Co.offs_at] at hq0
        have hdb := HDB.out (s + kk)
        obtain ⟨dk, hdk⟩ : ∃ d, D (s + kk) = d := ⟨_, rfl⟩
        obtain ⟨rk, hrk⟩ : ∃ d, Co.rest D s R kk = d := ⟨_, rfl⟩
        have HS1 : Hid (Co.rest D s R (kk + 1) = rk - min dk rk) := Lib.hid (by rw [Co.rest, hdk, hrk])
        have HS2 : Hid (∀ W : World, PMid w W base bs be bd bc br bf x c rt (.slice (some ⟨g, 0, none⟩) i cap) P (B + 1) #[.int .i64 z0, .int .i64 r, .int .i64 0, .int .i64 0] i (Co.offs D s R kk) → PMid w (W.setCell ⟨g, s + kk, none⟩ (.int .i64 (dk - min dk rk))) base bs be bd bc br bf x c rt (.slice (some ⟨g, 0, none⟩) i cap) P (B + 1) #[.int .i64 z0, .int .i64 r, .int .i64 0, .int .i64 0] i (Co.offs D s R (kk + 1))) :=
          Lib.hid fun W h => (h.putOwn _ _).congr fun j _ => by rw [Co.offs_succ, hdk, hrk]
        rw [hdk] at hq0 hdb
        rw [hrk] at hrb ⊢
        obtain ⟨hdb0, hdb1⟩ := hdb
        obtain ⟨hrb0, hrb1⟩ := hrb
        have hk0 : (0 : Int) ≤ kk := by omega
        have hk1 : (kk : Int) < k := by omega
        clear hdk hrk
        obtain ⟨m, hm⟩ : ∃ m, min dk rk = m := ⟨_, rfl⟩
        rw [hm] at HS1 HS2
        have hm0 : 0 ≤ m ∧ m ≤ dk ∧ m ≤ rk := by omega
        obtain ⟨m0, m1, m2⟩ := hm0
        go_wp2_with fail
        go_roundw
        case rel => exact ⟨kk + 1, by omega, by go_num, by rw [HS1.out], Lib.hid (HS2.out _ HQ.out)⟩
        case measure => simp [intOf]; omega
      · obtain rfl : k = kk := by omega
        obtain ⟨L, hL⟩ : ∃ L, Co.rest D s R k = L := ⟨_, rfl⟩
        rw [hL] at HLB HAC ⊢
        have CS2 := Lib.hid fun W : World => cshare_any L rt bf W HLB.out ⟨hrt.1, by have := hrt.2; omega⟩
        obtain ⟨z2, hz2⟩ : ∃ z, Co.part L rt = z := ⟨_, rfl⟩
        rw [hz2] at HAC CS2
        clear hL hz2 HLB hrb
        obtain ⟨a0, a1, a2⟩ := HQ.out.env.sh.rules
        obtain ⟨b0, b1, b2⟩ := HQ.out.env.ra.rules
        obtain ⟨d0, d1, d2⟩ := HQ.out.acc.rules
        go_wp2_with fail
        refine (CS2.out _).mono ?_
        rintro e w' ⟨rfl, n1, rfl⟩
        go_upto_region 13 with (fail)
        obtain ⟨W2, hW2⟩ : ∃ W2, (wr.drewN n1).setCell ⟨P, 2, none⟩ (.int .i64 z2) = W2 := ⟨_, rfl⟩
        replace HQ : Hid (PMid w W2 base bs be bd bc br bf x c rt v P (B + 1) #[.int .i64 z0, .int .i64 r, .int .i64 z2, .int .i64 0] i (Co.offs D s R k)) := Lib.hid (by rw [← hW2]; exact (HQ.out.drewN n1).putAcc 2 _)
        rw [hW2]
        clear hW2 a0 a1 a2 b0 b1 b2 d0 d1 d2 CS2
        obtain ⟨a0, a1, a2⟩ := HQ.out.env.de.rules
        obtain ⟨d0, d1, d2⟩ := HQ.out.acc.rules
        obtain ⟨u, hu⟩ : ∃ u, max 0 (-r) = u := ⟨_, rfl⟩
        obtain ⟨i0, hi0, hz0, hz1, hz2⟩ := info_parts i64_info
        have HI := Lib.hid hi0
        have HZ0 := Lib.hid hz0
        have HZ1 := Lib.hid hz1
        have HZ2 := Lib.hid hz2
        clear hi0 hz0 hz1 hz2
        have hnl : numsL i (Co.offs D s R k) ++ [.int .i64 u] = numsL (i + 1) E := by
          rw [numsL, numsL, List.range_succ, List.map_append]
          congr 1
          · apply List.map_congr_left
            intro j hj
            rw [HDS.out j, if_neg (by have := List.mem_range.1 hj; omega)]
          · simp [HDS.out i, hu]
        have HNL := Lib.hid hnl
        have HU := Lib.hid hu
        have hsz := HQ.out.lv.size
        have hbz := HQ.out.b0
        clear hnl
        go_upto_region 14 with ((at_builtin; refine wpList_append_lies _ rfl _ _ 23 rfl base 3 i0 _ 1 8 Try.underlying23 HI.out HZ0.out HZ1.out HZ2.out rfl (by omega) v i (numsL i (Co.offs D s R k)) rfl (HQ.out.own.alloc _) ⟨W2.heap.size, 0, none⟩ 1 1 [.int .i64 u] rfl rfl (World.news_of_block (cs := #[.int .i64 u]) (t := 3) (fr := (0, 0)) (heap_alloc_new W2 _)) (by simp [Value.oneCell']) (by omega) (by unfold maxLen; omega) (by omega) (by simp; omega) (W2.heap.size + 1) (by simp) ?_; intro g cap w4 hown hgrow hat hlt4; have HE4 := Lib.hid (PMid.close HQ.out (by rw [← HNL.out]; exact hown) hgrow hat); obtain ⟨e0, e1, e2⟩ := (HQ.out.cellD hgrow).rules; clear hgrow hat hlt4 hown))
        clear a0 a1 a2 d0 d1 d2 e0 e1 e2 HQ hsz hbz HI HZ0 HZ1 HZ2 hu HU HNL HA HDB
        obtain ⟨v', hv'⟩ : ∃ v', Value.slice (some ⟨g, 0, none⟩) (i + 1) cap = v' := ⟨_, rfl⟩
        rw [hv'] at HE4 ⊢
        obtain ⟨W5, hW5⟩ : ∃ W5, w4.setCell ⟨bd, 0, none⟩ v' = W5 := ⟨_, rfl⟩
        rw [hW5] at HE4 ⊢
        clear hv' hW5
        have CL := Lib.hid (last_any HE4.out.own (by omega) hc)
        unfold LastV at CL
        obtain ⟨s2, hs2⟩ : ∃ s, i + 1 - c = s := ⟨_, rfl⟩
        rw [hs2] at CL HAC
        obtain ⟨k2, hk2⟩ : ∃ s, i + 1 - s2 = s := ⟨_, rfl⟩
        rw [hk2] at CL HAC
        have hsk2 : s2 + k2 ≤ i + 1 ∧ k2 ≤ 20 := by omega
        obtain ⟨hsk2, hk220⟩ := hsk2
        clear hs2 hk2
        obtain ⟨a0, a1, a2⟩ := HE4.out.env.de.rules
        obtain ⟨b0, b1, b2⟩ := HE4.out.env.ca.rules
        go_wp2_with fail
        refine CL.out.mono ?_
        rintro e w' ⟨A2, c2, rfl, hA2, rfl⟩
        have HNU : Hid (Nums W5 W5.heap.size A2 k2 (fun j => E (s2 + j))) := Lib.hid fun hk0 => by
          obtain ⟨g, cap, hv, hA⟩ := hA2 hk0
          have ho := HE4.out.own
          rw [hv] at ho
          exact ⟨_, hA, OwnN.lt ho, fun j hj => by rw [Go.WideShapes.add_plain]; exact OwnN.cell ho (s2 + j) (by omega)⟩
        clear hA2 CL
        go_wp2_with fail
        refine (csum_any A2 k2 c2 _ _ _ (by omega) (fun j => HD1.out (s2 + j)) HNU.out).mono ?_
        rintro e w' ⟨rfl, rfl⟩
        rw [Co.sumr_shift]
        obtain ⟨z3, hz3⟩ : ∃ z, Co.sumr E s2 k2 = z := ⟨_, rfl⟩
        rw [hz3] at HAC ⊢
        clear hz3 HNU HD1 HDS
        obtain ⟨d0, d1, d2⟩ := HE4.out.acc.rules
        go_upto_region 15 with (fail)
        replace HE4 := Lib.hid (HE4.out.putAcc 3 (.int .i64 z3))
        obtain ⟨W6, hW6⟩ : ∃ W6, W5.setCell ⟨P, 3, none⟩ (.int .i64 z3) = W6 := ⟨_, rfl⟩
        rw [hW6] at HE4 ⊢
        clear a0 a1 a2 b0 b1 b2 d0 d1 d2 hW6
        obtain ⟨d0, d1, d2⟩ := HE4.out.acc.rules
        obtain ⟨b0, b1, b2⟩ := HE4.out.out.rules
        go_wp2_with fail
        replace HE4 := Lib.hid ((((HE4.out.putOut 0 (.int .i64 z0)).putOut 1 (.int .i64 r)).putOut 2 (.int .i64 z2)).putOut 3 (.int .i64 z3))
        obtain ⟨hq0, hq1, hq2, hq3⟩ := HAC.out
        refine bodyPost_ret (p2_out _ (B + 1) z0 r z2 z3 _ HE4.out.out rfl) rfl ?_
        exact ⟨by rw [hq0, hq1, hq2, hq3], v', HE4.out.env, HE4.out.own, HE4.out.lv, HE4.out.hv⟩
end Go.Proofs.Ytedkdflecdggpaa
