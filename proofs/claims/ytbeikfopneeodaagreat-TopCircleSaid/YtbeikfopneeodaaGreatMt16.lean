/- Dividing an amount by weights, in plain words. No program in sight. The sort of split.divide. -/
import Derived.Test.YtbeikfopneeodaaGreatMt03
import Derived.Test.YtbeikfopneeodaaGreatMt01
import Derived.Test.YtbeikfopneeodaaGreatMt15
import Derived.Test.YtbeikfopneeodaaGreatSortF
import Derived.Shelf.SlSortCmp.Whole1
import Derived.Shelf.SlSortCmp.WholeK
namespace Go.Proofs.YtbeikfopneeodaaGreat
open Go.RowKit
set_option linter.unusedVariables false

namespace Sp
/-- what each weight gets at first, and what remains -/
def q (a W : Int) (ws : Nat → Int) (i : Nat) : Int := a * ws i / W
def r (a W : Int) (ws : Nat → Int) (i : Nat) : Int := a * ws i % W

theorem psum_congr {f g : Nat → Int} (n : Nat) (h : ∀ i, i < n → f i = g i) : Ex.psum f n = Ex.psum g n := by
  induction n with
  | zero => rfl
  | succ n ih => rw [Ex.psum, Ex.psum, ih fun i hi => h i (by omega), h n (by omega)]
theorem psum_mono {f : Nat → Int} (h : ∀ i, 0 ≤ f i) {k n : Nat} (hk : k ≤ n) : Ex.psum f k ≤ Ex.psum f n := by
  induction n with
  | zero => obtain rfl : k = 0 := by omega
            exact Int.le_refl _
  | succ n ih =>
    by_cases e : k = n + 1
    · subst e; exact Int.le_refl _
    · have := ih (by omega)
      have := h n
      rw [Ex.psum]
      omega
theorem psum_mono' {f : Nat → Int} {k n : Nat} (h : ∀ i, i < n → 0 ≤ f i) (hk : k ≤ n) : Ex.psum f k ≤ Ex.psum f n := by
  induction n with
  | zero => obtain rfl : k = 0 := by omega
            exact Int.le_refl _
  | succ n ih =>
    by_cases e : k = n + 1
    · subst e; exact Int.le_refl _
    · have := ih (fun i hi => h i (by omega)) (by omega)
      have := h n (by omega)
      rw [Ex.psum]
      omega
theorem psum_nonneg {f : Nat → Int} {n : Nat} (h : ∀ i, i < n → 0 ≤ f i) : 0 ≤ Ex.psum f n := psum_mono' (k := 0) h (Nat.zero_le _)
theorem le_psum {f : Nat → Int} {n i : Nat} (h : ∀ i, i < n → 0 ≤ f i) (hi : i < n) : f i ≤ Ex.psum f n := by
  have h1 := psum_mono' (k := i + 1) h (by omega)
  have h2 := psum_nonneg (n := i) fun j hj => h j (by omega)
  rw [Ex.psum] at h1
  omega

section
variable {a W : Int} {ws : Nat → Int} {n : Nat}
theorem q_nonneg (ha : 0 ≤ a) (hW : 0 < W) {i : Nat} (hi : 0 ≤ ws i) : 0 ≤ q a W ws i := Int.ediv_nonneg (Int.mul_nonneg ha hi) (Int.le_of_lt hW)
theorem r_bound (hW : 0 < W) (i : Nat) : 0 ≤ r a W ws i ∧ r a W ws i < W := ⟨Int.emod_nonneg _ (by omega), Int.emod_lt_of_pos _ hW⟩
theorem sum_q (n : Nat) : Ex.psum (q a W ws) n * W + Ex.psum (r a W ws) n = a * Ex.psum ws n := by
  induction n with
  | zero => simp [Ex.psum]
  | succ n ih =>
    rw [Ex.psum, Ex.psum, Ex.psum, Int.mul_add, ← ih, Int.add_mul]
    have : q a W ws n * W + r a W ws n = a * ws n := by
      unfold q r
      rw [Int.mul_comm]
      exact Int.mul_ediv_add_emod _ _
    omega
theorem sum_r (hW : 0 < W) (n : Nat) : 0 ≤ Ex.psum (r a W ws) n ∧ (0 < n → Ex.psum (r a W ws) n < n * W) := by
  induction n with
  | zero => exact ⟨Int.le_refl _, fun h => by omega⟩
  | succ n ih =>
    obtain ⟨h1, h2⟩ := ih
    obtain ⟨h3, h4⟩ := r_bound (a := a) (ws := ws) hW n
    rw [Ex.psum]
    refine ⟨by omega, fun _ => ?_⟩
    rw [show ((n + 1 : Nat) : Int) * W = n * W + W by rw [Int.natCast_succ, Int.add_mul, Int.one_mul]]
    by_cases e : n = 0
    · subst e
      simp [Ex.psum]
      omega
    · have := h2 (by omega)
      omega
/-- what is left over after the first round: less than one for each weight -/
theorem left_bound (hW : 0 < W) (h : W = Ex.psum ws n) (hn : 0 < n) : 0 ≤ a - Ex.psum (q a W ws) n ∧ a - Ex.psum (q a W ws) n < n := by
  have h1 := sum_q (a := a) (W := W) (ws := ws) n
  obtain ⟨h2, h3⟩ := sum_r (a := a) (ws := ws) hW n
  have h4 := h3 hn
  rw [← h] at h1
  have h5 : (a - Ex.psum (q a W ws) n) * W = Ex.psum (r a W ws) n := by rw [Int.sub_mul]; omega
  constructor
  · rcases Int.lt_or_le (a - Ex.psum (q a W ws) n) 0 with hlt | hge
    · have := Int.mul_neg_of_neg_of_pos hlt hW
      omega
    · exact hge
  · rcases Int.lt_or_le (a - Ex.psum (q a W ws) n) n with hlt | hge
    · exact hlt
    · have := Int.mul_le_mul_of_nonneg_right hge (Int.le_of_lt hW)
      omega
end
/-- element i of a row grows by d -/
theorem psum_put {f : Nat → Int} {n k : Nat} (hk : k < n) (d : Int) : Ex.psum (fun i => if i = k then d else f i) n = Ex.psum f n - f k + d := by
  induction n with
  | zero => omega
  | succ n ih =>
    rw [Ex.psum, Ex.psum]
    by_cases e : k = n
    · subst e
      rw [if_pos rfl, psum_congr k (f := fun i => if i = k then d else f i) (g := f) (fun i hi => if_neg (by omega))]
      omega
    · rw [ih (by omega), if_neg (by omega)]
      omega
/-- what each gets adds up to the amount, and nobody gets less than its whole units -/
structure Fair (a W : Int) (ws : Nat → Int) (n : Nat) (f : Nat → Int) : Prop where
  sum : Ex.psum f n = a
  low : ∀ i, i < n → q a W ws i ≤ f i
theorem Fair.exact {a W : Int} {ws : Nat → Int} {n : Nat} {f : Nat → Int} (h : Fair a W ws n f) (he : Ex.psum (q a W ws) n = a) : ∀ i, i < n → f i = q a W ws i := by
  have key : ∀ n, (∀ i, i < n → q a W ws i ≤ f i) → Ex.psum (q a W ws) n ≤ Ex.psum f n ∧ (Ex.psum f n = Ex.psum (q a W ws) n → ∀ i, i < n → f i = q a W ws i) := by
    intro n
    induction n with
    | zero => exact fun _ => ⟨Int.le_refl _, fun _ i hi => by omega⟩
    | succ n ih =>
      intro hl
      obtain ⟨h1, h2⟩ := ih fun i hi => hl i (by omega)
      have h3 := hl n (by omega)
      rw [Ex.psum, Ex.psum]
      refine ⟨by omega, fun h i hi => ?_⟩
      by_cases e : i = n
      · subst e; omega
      · exact h2 (by omega) i (by omega)
  exact (key n h.low).2 (by rw [h.sum, he])
end Sp
end Go.Proofs.YtbeikfopneeodaaGreat
namespace Go.Proofs.YtbeikfopneeodaaGreat
open Go.RowKit
set_option linter.unusedVariables false

theorem leaves_sortWorld {α : Type} [Inhabited α] (enc : α → Value) (w : World) (blk off m : Nat) (dk : Array α) (os : Array Obj) : Leaves (fun k => k = blk) w (Go.Proofs.sortWorld enc w blk off m dk os) := by
  refine ⟨rfl, rfl, rfl, ?_, fun k hk hn => ?_⟩
  · show w.heap.size ≤ ((Go.Sort.putRow enc (Go.Sort.ahead w m) blk off dk).heap ++ os).size
    simp [Go.Sort.putRow, Go.Sort.mapBlock, Go.Sort.ahead]
  · have h1 : (Go.Sort.putRow enc (Go.Sort.ahead w m) blk off dk).heap[k]? = w.heap[k]? := by
      simp only [Go.Sort.putRow, Go.Sort.mapBlock, Go.Sort.ahead, Array.getElem?_modify]
      rw [if_neg (by omega)]
    rw [← h1]
    exact Go.Sort.heap_grow_old _ os (by simpa [Go.Sort.putRow, Go.Sort.mapBlock, Go.Sort.ahead] using hk)

theorem cmpI_lt (x y : Int) : (Lib.compareInt x y < 0) ↔ x < y := by
  unfold Lib.compareInt
  split
  · simp_all
  · split <;> simp_all
theorem cmpI_zero (x y : Int) : (Lib.compareInt x y = 0) ↔ x = y := by
  unfold Lib.compareInt
  split
  · constructor <;> intro h <;> omega
  · split
    · constructor <;> intro h <;> omega
    · constructor <;> intro h <;> omega
theorem or2_lt (a b : Int) : (orL [a, b] < 0) ↔ a < 0 ∨ (a = 0 ∧ b < 0) := by
  simp only [orL]
  split
  · subst_vars
    split
    · subst_vars; simp
    · simp
  · rename_i h
    constructor
    · exact .inl
    · rintro (h1 | ⟨h1, _⟩)
      · exact h1
      · exact absurd h1 h
theorem rem_lt (r : Nat → Int) (i j : Nat) : (remCmp r i j < 0) ↔ r j < r i ∨ (r j = r i ∧ i < j) := by
  unfold remCmp
  rw [or2_lt, cmpI_lt, cmpI_zero, cmpI_lt]
  omega
def finCmp (r : Nat → Int) (m : Nat) (x y : Fin (m + 1)) : Int := remCmp r x.val y.val
theorem fin_swo (r : Nat → Int) (m : Nat) : Go.Sort.SWO (ltOf (finCmp r m)) where
  irrefl x := by
    unfold ltOf finCmp
    rw [decide_eq_false_iff_not, rem_lt]
    omega
  trans x y z h1 h2 := by
    unfold ltOf finCmp at *
    rw [decide_eq_true_iff, rem_lt] at *
    omega
  ntrans x y z h1 h2 := by
    unfold ltOf finCmp at *
    rw [decide_eq_false_iff_not, rem_lt] at *
    omega

set_option maxRecDepth 100000 in
theorem sortrem (B R O n : Nat) (r : Nat → Int) (w : World) (hn1 : 1 ≤ n) (hn : n ≤ 64) (hB : w.cell? ⟨B, 0, none⟩ = some (.slice (some ⟨R, 0, none⟩) n n)) (hR : ∀ k, k < n → w.cell? ⟨R, k, none⟩ = some (.int .u64 (r k)))
    (ho : ∀ k, k < n → w.cell? ⟨O, k, none⟩ = some (.int .i64 k)) (hf : ∀ k, w.frozen? ⟨O, k, none⟩ = false) (hO : O < w.heap.size) (hRl : R < w.heap.size) (hBl : B < w.heap.size) (hBO : B ≠ O) (hRO : R ≠ O) :
    Calls Tryz.prog 194 #[.slice (some ⟨O, 0, none⟩) n n, .func (.func 257) #[] #[.pointer (some ⟨B, 0, none⟩)]] w fun e w' =>
      e = .returned (.tuple #[]) ∧ Leaves (fun k => k = O) w w' ∧ ∃ ord : Nat → Nat, ∀ k, k < n → ord k < n ∧ w'.cell? ⟨O, k, none⟩ = some (.int .i64 (ord k)) := by
  obtain ⟨m, rfl⟩ : ∃ m, n = m + 1 := ⟨n - 1, by omega⟩
  have eg : ∀ args w, (callFunc 257 args).run Tryz.prog w = .ok (.enter 257 args) w := Go.Proofs.enters_of Tryz.func257 (by kernel_rfl) rfl
  have hsz : (Array.ofFn (n := m + 1) fun i => i).size = m + 1 := by simp
  have hH : Go.Sort.Holds (fun x : Fin (m + 1) => Value.int .i64 (x.val : Int)) w O 0 (Array.ofFn (n := m + 1) fun i => i) := fun j hj => by
    rw [hsz] at hj
    refine ⟨?_, hf _⟩
    rw [Nat.zero_add, ho j hj]
    rw [getElem!_pos (Array.ofFn (n := m + 1) fun i => i) j (by rw [hsz]; exact hj)]
    simp
  have hcmp : CmpLays1 Tryz.prog 257 #[.pointer (some ⟨B, 0, none⟩)] (fun x : Fin (m + 1) => Value.int .i64 (x.val : Int)) (finCmp r m) O 0 (Array.ofFn (n := m + 1) fun i => i).size w := fun q os dk hdk x y => by
    have hl := leaves_sortWorld (fun x : Fin (m + 1) => Value.int .i64 (x.val : Int)) w O 0 q dk os
    refine remcmp_any B R (m + 1) x.val y.val r _ x.isLt y.isLt (by omega) ?_ (fun k hk => ?_)
    · rw [← hB]
      exact World.cell?_of_block (hl.block B hBl hBO)
    · rw [← hR k hk]
      exact World.cell?_of_block (hl.block R hRl hRO)
  have hcon := Any.slices_SortFunc Tryz.sortI (fun x : Fin (m + 1) => Value.int .i64 (x.val : Int)) (fun _ => rfl) (finCmp r m) (fin_swo r m) 257 #[.pointer (some ⟨B, 0, none⟩)] O 0 (m + 1) (Array.ofFn (n := m + 1) fun i => i) w eg hcmp hH hO (by rw [hsz]; omega)
  rw [hsz] at hcon
  change Calls Tryz.prog 194 _ _ _ at hcon
  refine hcon.mono ?_
  rintro e w' ⟨rfl, d', q, os, hp, _, rfl⟩
  refine ⟨rfl, leaves_sortWorld _ _ _ _ _ _ _, fun k => (d'[k]!).val, fun k hk => ⟨(d'[k]!).isLt, ?_⟩⟩
  have := (Go.Proofs.holds_sortWorld (fun x : Fin (m + 1) => Value.int .i64 (x.val : Int)) w O 0 q _ d' os hO hH hp.1 k (by rw [hp.1, hsz]; exact hk)).1
  rw [Nat.zero_add] at this
  exact this
end Go.Proofs.YtbeikfopneeodaaGreat
