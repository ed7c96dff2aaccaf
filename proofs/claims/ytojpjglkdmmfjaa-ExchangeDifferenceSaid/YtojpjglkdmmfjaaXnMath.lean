/- Balances in plain words: sums by currency. No program in sight. -/
import Derived.Test.YtojpjglkdmmfjaaXcMath
import Derived.Test.YtojpjglkdmmfjaaPairsOwn
namespace Go.Proofs.Ytojpjglkdmmfjaa.Xn

section
variable (f g : Nat → Int)
/-- the sum of the amounts in a currency, of the first k ones -/
def tot (c : Int) : Nat → Int
  | 0 => 0
  | k + 1 => if f k = c then tot c k + g k else tot c k
/-- the faults of a list -/
def cc (i : Nat) : Int := if ¬ Xc.curP (f i) then 15 else if Am.validB (g i) = false then 1 else 0
/-- the balance, of the currencies of a list -/
def bals (n : Nat) (l : List Int) : List (Int × Int) := l.filterMap fun c => if tot f g c n = 0 then none else some (c, tot f g c n)
def cus (m : Nat) : List Int := (List.range m).map Int.ofNat
/-- a sum that is no amount, among the currencies of a list -/
def badB (n : Nat) (l : List Int) : Bool := l.any fun c => !Am.validB (tot f g c n)
def nerr (n : Nat) : Int := if 65536 < n then 4 else if scan (cc f g) n 0 ≠ 0 then scan (cc f g) n 0 else if badB f g n (cus 16) = true then 3 else 0
def bal (n : Nat) : List (Int × Int) := bals f g n (cus 16)
end

section
variable {f g : Nat → Int}
theorem tot_bound {M : Int} {c : Int} : ∀ k, (∀ i, i < k → -M ≤ g i ∧ g i ≤ M) → -(M * k) ≤ tot f g c k ∧ tot f g c k ≤ M * k := fun k => by
  induction k with
  | zero => intro _; simp [tot]
  | succ k ih =>
    intro h
    have h1 := ih fun i hi => h i (by omega)
    have h2 := h k (by omega)
    have e : M * ((k + 1 : Nat) : Int) = M * k + M := by rw [Int.natCast_add, Int.mul_add]; simp
    rw [tot, e]
    split <;> omega
theorem tot_miss {c : Int} : ∀ k, (∀ i, i < k → f i ≠ c) → tot f g c k = 0 := fun k => by
  induction k with
  | zero => intro _; rfl
  | succ k ih => intro h; rw [tot, if_neg (h k (by omega)), ih fun i hi => h i (by omega)]
theorem cus_succ (m : Nat) : cus (m + 1) = cus m ++ [(m : Int)] := by rw [cus, List.range_succ, List.map_append]; rfl
theorem mem_cus {m : Nat} {c : Int} : c ∈ cus m ↔ 0 ≤ c ∧ c < m := by
  unfold cus
  rw [List.mem_map]
  constructor
  · rintro ⟨a, ha, rfl⟩
    have := List.mem_range.1 ha
    show 0 ≤ (a : Int) ∧ (a : Int) < m
    omega
  · intro h
    exact ⟨c.toNat, List.mem_range.2 (by omega), by show ((c.toNat : Nat) : Int) = c; omega⟩
theorem cus_asc (m : Nat) : (cus m).Pairwise (· < ·) := by
  induction m with
  | zero => simp [cus]
  | succ m ih =>
    rw [cus_succ, List.pairwise_append]
    refine ⟨ih, by simp, fun a ha b hb => ?_⟩
    rw [List.mem_singleton] at hb
    subst hb
    exact (mem_cus.1 ha).2
theorem bals_snoc (n : Nat) (l : List Int) (c : Int) : bals f g n (l ++ [c]) = bals f g n l ++ (if tot f g c n = 0 then [] else [(c, tot f g c n)]) := by
  unfold bals
  rw [List.filterMap_append]
  congr 1
  by_cases h : tot f g c n = 0
  · simp [h]
  · simp [h]
theorem bals_length (n : Nat) (l : List Int) : (bals f g n l).length ≤ l.length := List.length_filterMap_le _ _
theorem cus_length (m : Nat) : (cus m).length = m := by simp [cus]
theorem badB_snoc (n : Nat) (l : List Int) (c : Int) : badB f g n (l ++ [c]) = (badB f g n l || !Am.validB (tot f g c n)) := by simp [badB]
/-- two ascending lists with the same members are one -/
theorem asc_ext : ∀ {l m : List Int}, l.Pairwise (· < ·) → m.Pairwise (· < ·) → (∀ x, x ∈ l ↔ x ∈ m) → l = m
  | [], [], _, _, _ => rfl
  | [], b :: s, _, _, h => by have := (h b).2 (by simp); simp at this
  | a :: r, [], _, _, h => by have := (h a).1 (by simp); simp at this
  | a :: r, b :: s, h1, h2, h => by
    obtain ⟨a1, a2⟩ := List.pairwise_cons.1 h1
    obtain ⟨b1, b2⟩ := List.pairwise_cons.1 h2
    have hab : a = b := by
      rcases List.mem_cons.1 ((h a).1 (by simp)) with e | ha
      · exact e
      · rcases List.mem_cons.1 ((h b).2 (by simp)) with e | hb
        · exact e.symm
        · have := b1 a ha; have := a1 b hb; omega
    subst hab
    rw [asc_ext a2 b2 fun x => ⟨fun hx => by
      rcases List.mem_cons.1 ((h x).1 (by simp [hx])) with e | hx'
      · have := a1 x hx; omega
      · exact hx', fun hx => by
      rcases List.mem_cons.1 ((h x).2 (by simp [hx])) with e | hx'
      · have := b1 x hx; omega
      · exact hx'⟩]
/-- the currencies that occur are enough -/
theorem bals_keys {n : Nat} {l : List Int} (ha : l.Pairwise (· < ·)) (hs : ∀ c ∈ l, 0 ≤ c ∧ c < 16) (hz : ∀ c, c ∉ l → tot f g c n = 0) : bals f g n l = bal f g n ∧ badB f g n l = badB f g n (cus 16) := by
  have e : l = (cus 16).filter fun c => decide (c ∈ l) := asc_ext ha ((cus_asc 16).filter _) fun x => by
    rw [List.mem_filter, mem_cus]
    simp only [decide_eq_true_eq]
    exact ⟨fun h => ⟨hs x h, h⟩, fun h => h.2⟩
  have key : ∀ m : List Int, bals f g n (m.filter fun c => decide (c ∈ l)) = bals f g n m ∧ badB f g n (m.filter fun c => decide (c ∈ l)) = badB f g n m := fun m => by
    induction m with
    | nil => exact ⟨rfl, rfl⟩
    | cons a m ih =>
      by_cases h : a ∈ l
      · rw [List.filter_cons_of_pos (by simpa using h)]
        constructor
        · unfold bals at ih ⊢
          rw [List.filterMap_cons, List.filterMap_cons, ih.1]
        · unfold badB at ih ⊢
          rw [List.any_cons, List.any_cons, ih.2]
      · rw [List.filter_cons_of_neg (by simpa using h)]
        have h0 := hz a h
        constructor
        · unfold bals at ih ⊢
          rw [List.filterMap_cons, h0]
          simpa using ih.1
        · unfold badB at ih ⊢
          rw [List.any_cons, h0, ih.2]
          have : Am.validB 0 = true := (Am.validB_iff 0).2 ⟨by omega, by omega⟩
          rw [this]
          simp
  have := key (cus 16)
  rw [← e] at this
  exact this
theorem cc_fine {n : Nat} (h : scan (cc f g) n 0 = 0) : ∀ i, i < n → Xc.curP (f i) ∧ Am.validB (g i) = true := fun i hi => by
  have := scan_zero _ _ _ h i (by omega) (by omega)
  unfold cc at this
  by_cases c1 : Xc.curP (f i)
  · rw [if_neg (fun x => x c1)] at this
    by_cases c2 : Am.validB (g i) = false
    · rw [if_pos c2] at this; omega
    · exact ⟨c1, by simpa using c2⟩
  · rw [if_pos c1] at this; omega
end
end Go.Proofs.Ytojpjglkdmmfjaa.Xn
