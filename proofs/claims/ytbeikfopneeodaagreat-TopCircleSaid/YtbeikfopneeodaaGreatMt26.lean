/- The relation of ledger.Collect's second loop: which headings have come, and the row of their entries. -/
import Derived.Test.YtbeikfopneeodaaGreatMt25
namespace Go.Proofs.YtbeikfopneeodaaGreat
open Go.RowKit Maps
set_option linter.unusedVariables false

theorem hk_same {i j : Nat} (hi : i ≤ 4) (hj : j ≤ 4) : (hk i).sameKey (hk j) = decide (i = j) := by
  by_cases e : i = j
  · subst e
    rw [WideAt.sameKey_self (hk_is i)]
    simp
  · rw [Maps.sameKey_ne (hk_ne hi hj e)]
    simp [e]
set_option maxRecDepth 100000 in
theorem entry_all : (Tryz.prog.info? 99).map (fun i => (i.zero, i.size, i.bytes)) = some (some (.agg #[.int .i64 0, .int .i64 0, .int .i64 0, .int .i64 0, .int .i64 0]), 5, 40) := by kernel_rfl

/-- the cells of entries, by their numbers -/
def enF (l : List Nat) : List Value := l.flatMap fun i => (enN i).enc
theorem enF_snoc (l : List Nat) (i : Nat) : enF (l ++ [i]) = enF l ++ (enN i).enc := by simp [enF]
/-- those that are not 0 -/
def nz (l : List Nat) : List Nat := l.filter fun i => (enN i).amt != 0
theorem nz_snoc_in (l : List Nat) {i : Nat} (h : (enN i).amt ≠ 0) : nz (l ++ [i]) = nz l ++ [i] := by simp [nz, List.filter_append, h]
theorem nz_snoc_out (l : List Nat) {i : Nat} (h : (enN i).amt = 0) : nz (l ++ [i]) = nz l := by simp [nz, List.filter_append, h]
theorem nz_le (l : List Nat) : (nz l).length ≤ l.length := List.length_filter_le _ _

theorem ranges_ne_own {w : World} {b r n m cnt base : Nat} {D : DataW Unit} {left : Lit → Bool} {v : Value} {xs : List Value} {e : TypeId} {s : Nat} (h : w.ranges Tryz.prog 99 (plainElem Tryz.prog 3) b r n D left cnt) (ho : w.ownsRow base e s v m xs) : some b ≠ v.ownBlock ∧ some r ≠ v.ownBlock := by
  rcases ho.2 with ⟨h0, _⟩ | ⟨g, cap, cur, hv, _, hh, _⟩
  · rw [h0]
    exact ⟨by simp [Value.ownBlock], by simp [Value.ownBlock]⟩
  · obtain ⟨es, clock, since, seen, c0, hb, _, _, _, hr, _⟩ := h
    rw [hv]
    refine ⟨fun e => ?_, fun e => ?_⟩ <;> (simp only [Value.ownBlock, Option.some.injEq] at e; subst e)
    · rw [hh] at hb
      cases hb
    · rw [hh] at hr
      cases hr

/-- how the second loop stands: the headings of 'seen' have come -/
structure CRel (w : World) (B r n : Nat) (l : List (Nat × Int)) (v0 v : Value) (seen : List Nat) (left : Lit → Bool) (cnt : Nat) (wr : World) : Prop where
  nodup : seen.Nodup
  sub : ∀ i ∈ seen, i ∈ l.map (·.1)
  lf : ∀ i ∈ l.map (·.1), left (hk i) = !seen.contains i
  rg : wr.ranges Tryz.prog 99 (plainElem Tryz.prog 3) B r n (mapD l) left cnt
  row : wr.ownsRow w.heap.size 99 5 v (nz seen).length (enF (nz seen))
  same : nz seen = [] → v = v0
  bel : Below w.heap.size w wr
def CLoop (w : World) (B r n : Nat) (l : List (Nat × Int)) (v0 v : Value) (wr : World) : Prop := ∃ seen left cnt, CRel w B r n l v0 v seen left cnt wr

theorem CRel.all {w wr : World} {B r n cnt : Nat} {l : List (Nat × Int)} {v0 v : Value} {seen : List Nat} {left : Lit → Bool} (h : CRel w B r n l v0 v seen left cnt wr) (hl : ∀ kl, left kl = false) : ∀ i ∈ l.map (·.1), i ∈ seen := fun i hi => by
  have h1 := h.lf i hi
  rw [hl] at h1
  simpa using h1.symm
theorem pigeon : ∀ (s l : List Nat), s.Nodup → (∀ i ∈ s, i ∈ l) → s.length ≤ l.length
  | [], l, _, _ => Nat.zero_le _
  | a :: s, l, hn, hs => by
    have ha := hs a (List.mem_cons_self ..)
    rw [List.nodup_cons] at hn
    have h1 := pigeon s (l.erase a) hn.2 (fun i hi => (List.mem_erase_of_ne (fun e => by subst e; exact hn.1 hi)).2 (hs i (List.mem_cons_of_mem _ hi)))
    rw [List.length_erase_of_mem ha] at h1
    have := List.length_pos_of_mem ha
    simp only [List.length_cons]
    omega
theorem CRel.few {w wr : World} {B r n cnt : Nat} {l : List (Nat × Int)} {v0 v : Value} {seen : List Nat} {left : Lit → Bool} (h : CRel w B r n l v0 v seen left cnt wr) : seen.length ≤ l.length := by
  have := pigeon seen (l.map (·.1)) h.nodup h.sub
  simpa using this
/-- the next heading's number is a new one -/
theorem CRel.new {w wr : World} {B r n cnt : Nat} {l : List (Nat × Int)} {v0 v : Value} {seen : List Nat} {left : Lit → Bool} (h : CRel w B r n l v0 v seen left cnt wr) {p : Nat × Int} (hp : p ∈ l) (hlk : left (hk p.1) = true) : p.1 ∉ seen := fun hc => by
  have h1 := h.lf p.1 (List.mem_map.2 ⟨p, hp, rfl⟩)
  rw [hlk] at h1
  simp [hc] at h1
/-- a step: the entry has come, with its row -/
theorem CRel.step {w wr w' : World} {B r n cnt cnt' : Nat} {l : List (Nat × Int)} {v0 v v' : Value} {seen : List Nat} {left : Lit → Bool} (h : CRel w B r n l v0 v seen left cnt wr) {i : Nat} {x : Int} (hp : (i, x) ∈ l) (h4 : ∀ q ∈ l, q.1 ≤ 4) (hlk : left (hk i) = true)
    (hrg : w'.ranges Tryz.prog 99 (plainElem Tryz.prog 3) B r n (mapD l) (fun z => left z && !z.sameKey (hk i)) cnt')
    (hrow : w'.ownsRow w.heap.size 99 5 v' (nz (seen ++ [i])).length (enF (nz (seen ++ [i])))) (hsame : nz (seen ++ [i]) = [] → v' = v0) (hb : Below w.heap.size w w') : CRel w B r n l v0 v' (seen ++ [i]) (fun z => left z && !z.sameKey (hk i)) cnt' w' := by
  have hnew := h.new hp hlk
  refine ⟨?_, fun k hi => ?_, fun k hi => ?_, hrg, hrow, hsame, hb⟩
  · rw [List.nodup_append]
    exact ⟨h.nodup, by simp, fun a ha b hb => by rw [List.mem_singleton] at hb; subst hb; exact fun e => hnew (e ▸ ha)⟩
  · rcases List.mem_append.1 hi with h1 | h1
    · exact h.sub k h1
    · rw [List.mem_singleton] at h1
      exact List.mem_map.2 ⟨(i, x), hp, h1.symm⟩
  · obtain ⟨q, hq, rfl⟩ := List.mem_map.1 hi
    rw [h.lf q.1 hi, hk_same (h4 q hq) (h4 (i, x) hp)]
    by_cases e : q.1 = i
    · simp [e]
    · simp [e]
theorem perm4 (s : List Nat) (h : s.Nodup) (h1 : ∀ i ∈ s, i < 4) (h2 : ∀ i, i < 4 → i ∈ s) : ∃ a b c d : Fin 4, [a, b, c, d].Nodup ∧ s = [a.1, b.1, c.1, d.1] := by
  have hp : (List.range 4).Perm s := (List.perm_ext_iff_of_nodup List.nodup_range h).2 (fun i => by rw [List.mem_range]; exact ⟨h2 i, h1 i⟩)
  have hl := hp.length_eq
  simp at hl
  match s, hl, h, h1 with
  | [a, b, c, d], _, h, h1 =>
    refine ⟨⟨a, h1 a (by simp)⟩, ⟨b, h1 b (by simp)⟩, ⟨c, h1 c (by simp)⟩, ⟨d, h1 d (by simp)⟩, ?_, rfl⟩
    simpa [List.nodup_cons, Fin.ext_iff] using h
theorem enN_amt : ∀ i, i < 4 → (enN i).amt ≠ 0
  | 0, _ | 1, _ | 2, _ | 3, _ => by decide
theorem nz_all (s : List Nat) (h : ∀ i ∈ s, i < 4) : nz s = s := by
  unfold nz
  rw [List.filter_eq_self]
  intro i hi
  have := enN_amt i (h i hi)
  simpa using this
theorem enF_four (a b c d : Nat) (j : Nat) (hj : j < 20) : (enF [a, b, c, d])[j]? = some (Go.Sort.flatK En.enc 5 #[enN a, enN b, enN c, enN d])[j]! := by
  match j, hj with
  | 0, _ | 1, _ | 2, _ | 3, _ | 4, _ | 5, _ | 6, _ | 7, _ | 8, _ | 9, _ | 10, _ | 11, _ | 12, _ | 13, _ | 14, _ | 15, _ | 16, _ | 17, _ | 18, _ | 19, _ => simp [Go.Sort.flatK, enF, En.enc]
  | n + 20, h => exact absurd h (by omega)
/-- entries (by their numbers) lie in block X -/
def EnAt (w : World) (X : Nat) (l : List Nat) : Prop := (∀ j, j < l.length * 5 → w.cell? ⟨X, j, none⟩ = some ((enN (l.getD (j / 5) 0)).enc.getD (j % 5) undef)) ∧ X < w.heap.size
theorem EnAt.below {w w' : World} {X b : Nat} {l : List Nat} (h : EnAt w X l) (hb : Below b w w') (hX : X < b) : EnAt w' X l :=
  ⟨fun j hj => (hb.cell (p := ⟨X, j, none⟩) hX).trans (h.1 j hj), Nat.lt_of_lt_of_le h.2 hb.size⟩
theorem enAt_flat (j : Nat) (hj : j < 20) : (Go.Sort.flatK En.enc 5 #[enN 0, enN 1, enN 2, enN 3])[j]! = (enN ([0, 1, 2, 3].getD (j / 5) 0)).enc.getD (j % 5) undef := by
  match j, hj with
  | 0, _ | 1, _ | 2, _ | 3, _ | 4, _ | 5, _ | 6, _ | 7, _ | 8, _ | 9, _ | 10, _ | 11, _ | 12, _ | 13, _ | 14, _ | 15, _ | 16, _ | 17, _ | 18, _ | 19, _ => simp [Go.Sort.flatK, enN, En.enc]
  | n + 20, h => exact absurd h (by omega)
theorem mapD_here : ∀ (l : List (Nat × Int)) {q : Nat × Int}, q ∈ l → Maps.has (mapD l) (hk q.1) = true
  | [], q, h => by cases h
  | p :: l, q, h => by
    rw [mapD]
    by_cases e : hk q.1 = hk p.1
    · rw [e]
      exact Maps.has_put_same (mapD_isMap l) (hk_is _) _
    · rw [Maps.has_put_other e]
      rcases List.mem_cons.1 h with rfl | h
      · exact absurd rfl e
      · exact mapD_here l h
abbrev OwnM (w : World) (B n : Nat) (l : List (Nat × Int)) : Prop := w.ownsMap Tryz.prog 99 (plainElem Tryz.prog 3) B n (mapD l)
theorem own_map_b {w w' : World} {b n : Nat} {l : List (Nat × Int)} (h : OwnM w b n l) (e : w'.heap[b]? = w.heap[b]?) : OwnM w' b n l := by
  obtain ⟨es, clock, hb, Ft, hs, hD⟩ := h
  exact ⟨es, clock, e.trans hb, Ft, hs, hD⟩
def CollPost (w : World) (e : Ending) (w' : World) : Prop := ∃ X cap, 4 ≤ cap ∧ e = .returned (.tuple #[.slice (some ⟨X, 0, none⟩) 4 cap, .int .i64 0]) ∧ EnAt w' X [0, 1, 2, 3] ∧ w.heap.size ≤ X ∧ Below w.heap.size w w'
def NonePost (w : World) (n : Nat) (e : Ending) (w' : World) : Prop := ∃ Y, e = .returned (.tuple #[.slice (some ⟨Y, 0, none⟩) 0 n, .int .i64 0]) ∧ Y < w'.heap.size ∧ w.heap.size ≤ Y ∧ Below w.heap.size w w'
/-- what the walk is told of a pair of the map -/
theorem en_pair (l : List (Nat × Int)) (h : ∀ p ∈ l, p.1 ≤ 4 ∧ p.2 = (enN p.1).amt) {i : Nat} {x : Int} (hp : (i, x) ∈ l) : ∃ k t q m a : Int, hdN i = .agg #[.int .i64 k, .int .i64 t, .int .i64 q, .int .i64 m, .int .i64 0] ∧ (enN i).enc = [.int .i64 k, .int .i64 t, .int .i64 q, .int .i64 m, .int .i64 a] ∧ x = a ∧ (enN i).amt = a ∧ Am.validB a = true := by
  obtain ⟨h1, h2⟩ := h _ hp
  have h1' : i = 0 ∨ i = 1 ∨ i = 2 ∨ i = 3 ∨ i = 4 := by simp only at h1; omega
  rcases h1' with rfl | rfl | rfl | rfl | rfl <;> exact ⟨_, _, _, _, _, rfl, rfl, h2, rfl, by first | exact (by decide : Am.validB 15 = true) | exact (by decide : Am.validB 35 = true) | exact (by decide : Am.validB 0 = true)⟩
end Go.Proofs.YtbeikfopneeodaaGreat
