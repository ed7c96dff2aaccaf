/- The map of ledger.Collect: keyed by entries. The map of ledger.Collect in plain words: headings, and what it holds after some of them. The sort of ledger.Collect. The step of a range over the map of ledger.Collect. -/
import Derived.Test.YtbeikfopneeodaaGreatMt24
import Derived.DeepKeys4
import Derived.WideKeyEntry
import Derived.Maps.OwnSet
import Derived.Maps.OwnOps
import Derived.Maps.RangeWalk
import Derived.Maps.Views
namespace Go.Proofs.YtbeikfopneeodaaGreat
open Go.RowKit
set_option linter.unusedVariables false

set_option maxRecDepth 100000 in
theorem en_laid : laidOutB Tryz.prog = true := by kernel_rfl
set_option maxRecDepth 100000 in
theorem en_row : (99 : TypeId) < Tryz.prog.types.size := of_decide_eq_true (by kernel_rfl)
set_option maxRecDepth 100000 in
theorem en_kt : Tryz.prog.keyTypeAt 2 99 = true := by kernel_rfl
theorem en_wide : (match Tryz.prog.underlying 99 with | some (.array _ _) | some (.struct _) => true | _ => false) = true := by rw [Tryz.underlying99]
set_option maxRecDepth 100000 in
theorem en_law : WideMaps.KeyLaw Tryz.prog 99 := deep_law_laid en_laid (m := 2) (by omega) en_row en_kt en_wide
theorem en_keyed : Maps.Keyed Tryz.prog 99 := Maps.Keyed.of_law en_law

/-- a heading, as a key of the map -/
def hdV (k t p l : Int) : Value := .agg #[.int .i64 k, .int .i64 t, .int .i64 p, .int .i64 l, .int .i64 0]
/-- the four headings and the premium's -/
def hdN : Nat → Value
  | 0 => hdV 1 0 0 7
  | 1 => hdV 1 1 2 7
  | 2 => hdV 2 0 0 7
  | 3 => hdV 2 1 2 7
  | _ => hdV 3 1 2 0
set_option maxRecDepth 100000 in
theorem hd_some0 : (keyOf Tryz.prog 99 (hdV 1 0 0 7)).isSome = true := by kernel_rfl
set_option maxRecDepth 100000 in
theorem hd_some1 : (keyOf Tryz.prog 99 (hdV 1 1 2 7)).isSome = true := by kernel_rfl
set_option maxRecDepth 100000 in
theorem hd_some2 : (keyOf Tryz.prog 99 (hdV 2 0 0 7)).isSome = true := by kernel_rfl
set_option maxRecDepth 100000 in
theorem hd_some3 : (keyOf Tryz.prog 99 (hdV 2 1 2 7)).isSome = true := by kernel_rfl
set_option maxRecDepth 100000 in
theorem hd_some4 : (keyOf Tryz.prog 99 (hdV 3 1 2 0)).isSome = true := by kernel_rfl
theorem hd_some (i : Nat) : (keyOf Tryz.prog 99 (hdN i)).isSome = true :=
  match i with
  | 0 => hd_some0
  | 1 => hd_some1
  | 2 => hd_some2
  | 3 => hd_some3
  | _ + 4 => hd_some4
theorem hd_key (i : Nat) : ∃ kl, keyOf Tryz.prog 99 (hdN i) = some kl := Option.isSome_iff_exists.mp (hd_some i)

set_option maxRecDepth 100000 in
open Maps in
/-- m[h] += a at a heading that the map does not hold -/
theorem add_new {w : World} {B n : Nat} {D : DataW Unit} {key : Value} {kl : Lit} (h : w.ownsMap Tryz.prog 99 (plainElem Tryz.prog 3) B n D) (hk : keyOf Tryz.prog 99 key = some kl) (hno : Maps.has D kl = false) :
    (Instr.lookup 238 (.map (some B)) key false).run Tryz.prog w = .ok (.int .i64 0) w := by
  obtain ⟨c, hrun, hv, _⟩ := h.lookup_int en_keyed Tryz.underlying238 Tryz.underlying3 (Tryz.zeroValue3 w) hk
  rw [Maps.atKey_of_not_has hno] at hv
  injection hv with hv
  injection hv with _ hv
  rw [hrun, ← hv]

theorem setBlock_twice (w : World) (b : Nat) (o o' : Obj) : Go.ChangeMaps.setBlock (Go.ChangeMaps.setBlock w b o) b o' = Go.ChangeMaps.setBlock w b o' := by
  unfold Go.ChangeMaps.setBlock
  simp

set_option maxRecDepth 100000 in
open Maps in
/-- m[h] += a: the entry is sought (and made), then stored: together what m[h] = .. does -/
theorem add_entry {w : World} {B n : Nat} {D : DataW Unit} {key : Value} {kl : Lit} (h : w.ownsMap Tryz.prog 99 (plainElem Tryz.prog 3) B n D) (hk : keyOf Tryz.prog 99 key = some kl) (hn : n < maxLen) (a : Int) (ha : (Lit.int .i64 a).wf = true) :
    ∃ v0 st w1, (Instr.mapEntry 238 (.map (some B)) key).run Tryz.prog w = .ok (.tuple #[v0, .int .i64 st]) w1 ∧
      ∃ w2, (Instr.entryStore 238 (.map (some B)) (.int .i64 st) (.int .i64 a)).run Tryz.prog w1 = .ok () w2 ∧ w2.ownsMap Tryz.prog 99 (plainElem Tryz.prog 3) B (n + 1) (D.put kl (.lit (.int .i64 a))) ∧ Leaves (fun k => k = B) w w2 := by
  obtain ⟨w', hrun, hown, hturn⟩ := h.store en_keyed Tryz.underlying238 hn (val := .int .i64 a) hk (plainElem_int Tryz.underlying3 ha)
  obtain ⟨es, clock, hb, F, hs, rfl⟩ := h
  obtain ⟨v0, st, es1, clock1, h1, _, h2⟩ := Go.WideElems.entry_then_store (w := w) en_law Tryz.underlying238 (z := .int .i64 0) (fun u => Tryz.zeroValue3 u) hb F hk
  obtain ⟨es', clock', h3, h4⟩ := h2 (Go.ChangeMaps.setBlock w B (.map es1 clock1)) (.int .i64 a) (Go.ChangeMaps.heap_setBlock_same hb _)
  have he : w' = Go.ChangeMaps.setBlock w B (.map es' clock') := by
    rw [hrun] at h4
    injection h4
  rw [setBlock_twice] at h3
  subst he
  exact ⟨v0, st, _, h1, _, h3, hown, Leaves.grown (Leaves.refl _ w) hturn.grown (fun k hk => .inl (Option.some.inj hk).symm)⟩

set_option maxRecDepth 100000 in
open Maps in
/-- the same at a heading that the map does not hold: between the two steps the look-up gives 0 -/
theorem add_entry2 {w : World} {B n : Nat} {D : DataW Unit} {key : Value} {kl : Lit} (h : w.ownsMap Tryz.prog 99 (plainElem Tryz.prog 3) B n D) (hk : keyOf Tryz.prog 99 key = some kl) (hno : Maps.has D kl = false) (hn : n < maxLen) (a : Int) (ha : (Lit.int .i64 a).wf = true) :
    ∃ st w1, (Instr.mapEntry 238 (.map (some B)) key).run Tryz.prog w = .ok (.tuple #[.int .i64 0, .int .i64 st]) w1 ∧
      (Instr.lookup 238 (.map (some B)) key false).run Tryz.prog w1 = .ok (.int .i64 0) w1 ∧ Leaves (fun k => k = B) w w1 ∧
      ∃ w2, (Instr.entryStore 238 (.map (some B)) (.int .i64 st) (.int .i64 a)).run Tryz.prog w1 = .ok () w2 ∧ w2.ownsMap Tryz.prog 99 (plainElem Tryz.prog 3) B (n + 1) (D.put kl (.lit (.int .i64 a))) ∧ Leaves (fun k => k = B) w w2 := by
  obtain ⟨v0, st, w1, f1, w2, f2, hown, hl⟩ := add_entry h hk hn a ha
  obtain ⟨wz, hrunz, hownz, hturn⟩ := h.store en_keyed Tryz.underlying238 hn (val := .int .i64 0) hk (plainElem_int Tryz.underlying3 (by decide))
  have hisM := h.isMap
  obtain ⟨es, clock, hb, F, hs, rfl⟩ := h
  have hnone : ∀ x ∈ es.toList, x.key ≠ key := by
    rcases Maps.fit_look false en_keyed Tryz.underlying238 (Tryz.zeroValue3 w) hb F hk with ⟨_, h2, _⟩ | ⟨e0, y, _, _, _, _, hat, _⟩
    · exact h2
    · have e1 := hat (.lit (.int .i64 0))
      have e2 := hat (.lit (.int .i64 1))
      rw [Maps.atKey_of_not_has hno] at e1 e2
      rw [← e1] at e2
      injection e2 with e2
      injection e2 with _ e2
      exact absurd e2 (by decide)
  have hf : (Instr.findKey 99 key es.toList).run Tryz.prog w = .ok none w := by
    rcases en_keyed.find w hk es.toList F.keys with ⟨h1, _⟩ | ⟨j, e0, _, h2, h3⟩
    · exact h1
    · exact absurd h3 (hnone e0 (List.mem_of_getElem? h2))
  have m1 : (Instr.mapEntry 238 (.map (some B)) key).run Tryz.prog w = .ok (.tuple #[.int .i64 0, .int .i64 clock]) (Go.ChangeMaps.setBlock w B (.map (es.push ⟨key, .int .i64 0, clock⟩) (clock + 1))) := by
    simp [Instr.mapEntry, run_underlying Tryz.underlying238, MapKept.run_getObj_map hb, en_keyed.check w false hk, hf, Tryz.zeroValue3, MapKept.run_setObj_map _ hb, Result.andThen, Go.ChangeMaps.setBlock, goInt]
  have m2 : (Instr.mapUpdate 238 (.map (some B)) key (.int .i64 0)).run Tryz.prog w = .ok () (Go.ChangeMaps.setBlock w B (.map (es.push ⟨key, .int .i64 0, clock⟩) (clock + 1))) := by
    simp [Instr.mapUpdate, run_underlying Tryz.underlying238, MapKept.run_getObj_map hb, en_keyed.check w false hk, hf, MapKept.run_setObj_map _ hb, Result.andThen, Go.ChangeMaps.setBlock]
  have hwz : wz = Go.ChangeMaps.setBlock w B (.map (es.push ⟨key, .int .i64 0, clock⟩) (clock + 1)) := by
    rw [hrunz] at m2
    injection m2
  rw [← hwz] at m1
  rw [m1] at f1
  injection f1 with f1 f1w
  subst f1w
  injection f1 with f1
  obtain ⟨rfl, hst⟩ : v0 = .int .i64 0 ∧ (clock : Int) = st := by
    simp only [Array.mk.injEq, List.cons.injEq, Value.int.injEq, and_true, true_and] at f1
    exact ⟨f1.1.symm, f1.2⟩
  subst hst
  obtain ⟨c, hrun, hv, _⟩ := hownz.lookup_int en_keyed Tryz.underlying238 Tryz.underlying3 (Tryz.zeroValue3 _) hk
  rw [Maps.atKey_put_same hisM (en_keyed.key hk)] at hv
  injection hv with hv
  injection hv with _ hv
  subst hv
  exact ⟨_, _, m1, hrun, Leaves.grown (Leaves.refl _ w) hturn.grown (fun k hk => .inl (Option.some.inj hk).symm), w2, f2, hown, hl⟩
end Go.Proofs.YtbeikfopneeodaaGreat
namespace Go.Proofs.YtbeikfopneeodaaGreat
open Go.RowKit
set_option linter.unusedVariables false

/-- the key of heading number i -/
noncomputable def hk (i : Nat) : Lit := (hd_key i).choose
theorem hk_spec (i : Nat) : keyOf Tryz.prog 99 (hdN i) = some (hk i) := (hd_key i).choose_spec
theorem hk_is (i : Nat) : WideAt.IsKeyLit (hk i) := en_keyed.key (hk_spec i)
set_option maxRecDepth 100000 in
theorem hk_ne {i j : Nat} (hi : i ≤ 4) (hj : j ≤ 4) (h : i ≠ j) : hk i ≠ hk j := fun e => by
  have e2 := en_keyed.inj (hk_spec i) (by rw [e]; exact hk_spec j)
  have hi' : i = 0 ∨ i = 1 ∨ i = 2 ∨ i = 3 ∨ i = 4 := by omega
  have hj' : j = 0 ∨ j = 1 ∨ j = 2 ∨ j = 3 ∨ j = 4 := by omega
  rcases hi' with rfl | rfl | rfl | rfl | rfl <;> rcases hj' with rfl | rfl | rfl | rfl | rfl <;> first | exact h rfl | exact absurd e2 (by simp [hdN, hdV])

/-- the map after the headings of the list have come in (the last first) -/
noncomputable def mapD : List (Nat × Int) → DataW Unit
  | [] => .map []
  | p :: l => (mapD l).put (hk p.1) (.lit (.int .i64 p.2))
theorem mapD_isMap : ∀ l, Maps.IsMap (mapD l)
  | [] => ⟨_, rfl⟩
  | p :: l => by
    obtain ⟨es, he⟩ := mapD_isMap l
    exact ⟨_, by rw [mapD, he]; rfl⟩
theorem mapD_has : ∀ (l : List (Nat × Int)) (kl : Lit), Maps.has (mapD l) kl = true → ∃ p ∈ l, kl = hk p.1
  | [], kl, h => by cases h
  | p :: l, kl, h => by
    by_cases e : kl = hk p.1
    · exact ⟨p, List.mem_cons_self .., e⟩
    · rw [mapD, Maps.has_put_other e] at h
      obtain ⟨q, hq, hk⟩ := mapD_has l kl h
      exact ⟨q, List.mem_cons_of_mem _ hq, hk⟩
theorem mapD_miss (l : List (Nat × Int)) {i : Nat} (hi : i ≤ 4) (hl : ∀ p ∈ l, p.1 ≤ 4 ∧ p.1 ≠ i) : Maps.has (mapD l) (hk i) = false := by
  cases e : Maps.has (mapD l) (hk i) with
  | false => rfl
  | true =>
    obtain ⟨p, hp, he⟩ := mapD_has l _ e
    exact absurd he (hk_ne hi (hl p hp).1 (fun x => (hl p hp).2 x.symm))
theorem mapD_at : ∀ (l : List (Nat × Int)) (p : Nat × Int) (zd : DataW Unit), p ∈ l → (l.map (·.1)).Nodup → (∀ q ∈ l, q.1 ≤ 4) → (mapD l).atKey (hk p.1) zd = .lit (.int .i64 p.2)
  | [], p, zd, h, _, _ => by cases h
  | q :: l, p, zd, h, hn, hq => by
    rw [List.map_cons, List.nodup_cons] at hn
    rw [mapD]
    rcases List.mem_cons.1 h with rfl | h
    · exact Maps.atKey_put_same (mapD_isMap l) (hk_is _) _ _
    · have hne : p.1 ≠ q.1 := fun e => hn.1 (by rw [← e]; exact List.mem_map.2 ⟨p, h, rfl⟩)
      rw [Maps.atKey_put_other (hk_ne (hq p (List.mem_cons_of_mem _ h)) (hq q (List.mem_cons_self ..)) hne)]
      exact mapD_at l p zd h hn.2 (fun x hx => hq x (List.mem_cons_of_mem _ hx))
theorem mapD_tidy : ∀ l, Maps.Tidy (mapD l)
  | [] => Maps.tidy_empty
  | p :: l => (mapD_tidy l).put (hk_is _) _
theorem mapD_size : ∀ (l : List (Nat × Int)), (l.map (·.1)).Nodup → (∀ q ∈ l, q.1 ≤ 4) → Maps.size (mapD l) = l.length
  | [], _, _ => rfl
  | p :: l, hn, hq => by
    rw [List.map_cons, List.nodup_cons] at hn
    rw [mapD, Maps.size_put (mapD_tidy l), mapD_miss l (hq p (List.mem_cons_self ..)) (fun q h => ⟨hq q (List.mem_cons_of_mem _ h), fun e => hn.1 (by rw [← e]; exact List.mem_map.2 ⟨q, h, rfl⟩)⟩), mapD_size l hn.2 (fun q h => hq q (List.mem_cons_of_mem _ h))]
    rfl
end Go.Proofs.YtbeikfopneeodaaGreat
namespace Go.Proofs.YtbeikfopneeodaaGreat
open Go.RowKit
set_option linter.unusedVariables false

/-- the entries of the example in their order, and the premium's -/
def enN : Nat → En
  | 0 => ⟨1, 0, 0, 7, 15⟩
  | 1 => ⟨1, 1, 2, 7, 15⟩
  | 2 => ⟨2, 0, 0, 7, 35⟩
  | 3 => ⟨2, 1, 2, 7, 35⟩
  | _ => ⟨3, 1, 2, 0, 0⟩
set_option maxRecDepth 100000 in
theorem en_sorted : ∀ a b c d : Fin 4, [a, b, c, d].Nodup → Go.Sort.insertionSort (ltOf En.cmp) #[enN a, enN b, enN c, enN d] 0 4 = #[enN 0, enN 1, enN 2, enN 3] := by decide +kernel

set_option maxRecDepth 100000 in
theorem sort_en (X cap : Nat) (d d' : Array En) (w : World) (hd : Go.Sort.insertionSort (ltOf En.cmp) d 0 d.size = d') (hs : d'.size = d.size) (h12 : d.size ≤ 12) (hX : X < w.heap.size) (hc : ∀ j, j < d.size * 5 → w.cell? ⟨X, j, none⟩ = some (Go.Sort.flatK En.enc 5 d)[j]!) (hf : ∀ j, w.frozen? ⟨X, j, none⟩ = false) :
    Calls Tryz.prog 138 #[.slice (some ⟨X, 0, none⟩) d.size cap, .func (.func 139) #[] #[]] w fun e w' => e = .returned (.tuple #[]) ∧ Leaves (fun k => k = X) w w' ∧ ∀ j, j < d.size * 5 → w'.cell? ⟨X, j, none⟩ = some (Go.Sort.flatK En.enc 5 d')[j]! := by
  have eg : ∀ args w, (callFunc 139 args).run Tryz.prog w = .ok (.enter 139 args) w := Go.Proofs.enters_of Tryz.func139 (by kernel_rfl) rfl
  have hH : Go.Sort.HoldsK En.enc 5 w X 0 d := fun j hj => by
    have hj' : j < d.size * 5 := by simpa using hj
    rw [Nat.zero_add, hc j hj', hf j]
    exact ⟨rfl, rfl⟩
  have hcmp : CmpLays Tryz.prog 139 #[] En.enc 5 En.cmp X 0 d.size w := fun q os dk hdk x y => encmp_any x y _
  have hcon := AnyQ.slices_SortFunc_small Tryz.sortEn 5 Tryz.isAgg99 Tryz.sizeOf99 En.enc (fun _ => rfl) (fun x v hv => by
    simp only [En.enc, List.mem_cons, List.not_mem_nil, or_false] at hv
    rcases hv with rfl | rfl | rfl | rfl | rfl <;> rfl) En.cmp 139 #[] X 0 cap d w eg hcmp hH hX h12 (fun n W hn => (Tryz.bits_Len n W (by omega) (by omega)).mono fun e w' h => ⟨⟨_, h.1⟩, h.2⟩)
  refine Calls.mono hcon ?_
  rintro e w' ⟨rfl, n, os, rfl⟩
  rw [hd]
  refine ⟨rfl, leaves_sortWorld id w X 0 n (Go.Sort.flatK En.enc 5 d') os, fun j hj => ?_⟩
  have := (holdsK_sortWorldK En.enc 5 w X 0 n d d' os hX hH hs j (by simpa [hs] using hj)).1
  rw [Nat.zero_add] at this
  rw [this]
  rfl
end Go.Proofs.YtbeikfopneeodaaGreat
namespace Go.Proofs.YtbeikfopneeodaaGreat
open Go.RowKit Maps
set_option linter.unusedVariables false

set_option maxRecDepth 100000 in
theorem en_next {w : World} {ops : Array Oper} {rest : List Oper} {o : Oper} {a : Act} {Q : Exit → Act → World → Prop} (hg : o.guard = none) (it : Operand) (hop : o.op = Op.next it false) (b r n cnt : Nat) (l : List (Nat × Int)) (left : Lit → Bool)
    (hn : (l.map (·.1)).Nodup) (h4 : ∀ q ∈ l, q.1 ≤ 4) (hit : a.eval it = .pointer (some ⟨r, 0, none⟩)) (h : w.ranges Tryz.prog 99 (plainElem Tryz.prog 3) b r n (mapD l) left cnt)
    (hDone : (∀ kl, left kl = false) → wpList Tryz.prog ops Q rest (a.put o.dst (.tuple #[.bool false])) w)
    (hMore : ∀ (p : Nat × Int) (w' : World) (cnt' : Nat), p ∈ l → left (hk p.1) = true → w'.ranges Tryz.prog 99 (plainElem Tryz.prog 3) b r n (mapD l) (fun z => left z && !z.sameKey (hk p.1)) cnt' → cnt' < cnt → w.grownBy w' (some r) → w'.heap.size = w.heap.size →
      (Instr.entry (.pointer (some ⟨r, 0, none⟩))).run Tryz.prog w' = .ok (.tuple #[hdN p.1, .int .i64 p.2]) w' → wpList Tryz.prog ops Q rest (a.put o.dst (.tuple #[.bool true, hdN p.1, .int .i64 p.2])) w') :
    wpList Tryz.prog ops Q (o :: rest) a w := by
  refine wpList_next_ranges w hg it hop 99 en_keyed (plainElem Tryz.prog 3) (fun x : Value => x) (Value.int .i64) (fun key kl hk => ⟨key, rfl⟩) (fun v y hv => by obtain ⟨c, rfl, _⟩ := plainElem_int_inv Tryz.underlying3 hv; exact ⟨c, rfl⟩)
    b r n (mapD l) left cnt hit h (fun _ => hDone) (fun x c kl y w' cnt' hkey hlk hv hat hrg hlt hgr hsz hen => ?_)
  have hhas : Maps.has (mapD l) kl = true := by
    cases e : Maps.has (mapD l) kl with
    | true => rfl
    | false =>
      have e1 := hat (.lit (.int .i64 0))
      have e2 := hat (.lit (.int .i64 1))
      rw [Maps.atKey_of_not_has e] at e1 e2
      rw [← e1] at e2
      injection e2 with e2
      injection e2 with _ e2
      exact absurd e2 (by decide)
  obtain ⟨p, hp, rfl⟩ := mapD_has l kl hhas
  obtain rfl := en_keyed.inj hkey (hk_spec p.1)
  have hc : c = p.2 := by
    obtain ⟨c', ec, rfl, _⟩ := plainElem_int_inv Tryz.underlying3 hv
    injection ec with _ ec
    subst ec
    have := (hat (.lit (.int .i64 0))).symm.trans (mapD_at l p (.lit (.int .i64 0)) hp hn h4)
    injection this with this
    injection this
  subst hc
  exact hMore p w' cnt' hp hlk hrg hlt hgr hsz hen
end Go.Proofs.YtbeikfopneeodaaGreat
