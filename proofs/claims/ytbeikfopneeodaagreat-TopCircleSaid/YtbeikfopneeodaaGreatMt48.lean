/- The plain laws of package retro. No program in sight. What the deck makes is a market without fault. treatytop.total: the sum of a list of numbers. -/
import Derived.Test.YtbeikfopneeodaaGreatMt40
import Derived.Test.YtbeikfopneeodaaGreatMt47
import Derived.Test.YtbeikfopneeodaaGreatMt46
namespace Go.Proofs.YtbeikfopneeodaaGreat.Re

theorem ced_mono (r : Rt) (x y : Int) (h : x ≤ y) (hy : y ≤ 17592186044416) : ced r x ≤ ced r y := by
  unfold ced
  split
  · next hx =>
    obtain ⟨hp, h0, h1, h2⟩ := hx
    rw [if_pos ⟨hp, by omega, hy, by omega⟩]
    obtain ⟨p0, p1, p2, p3, p4, p5⟩ := hp
    have : (x - r.re) * r.sh ≤ (y - r.re) * r.sh := Int.mul_le_mul_of_nonneg_right (by omega) (by omega)
    omega
  · split
    · next hy' =>
      obtain ⟨⟨p0, p1, p2, p3, p4, p5⟩, h0, h1, h2⟩ := hy'
      have : 0 ≤ (y - r.re) * r.sh := Int.mul_nonneg (by omega) (by omega)
      omega
    · omega

theorem acc_le {b : Nat → Int} {s : Nat → Nat} {v v' : Nat → Int} (k i : Nat) (h : ∀ j, j < k → s j = i → v j ≤ v' j) : acc b s v k i ≤ acc b s v' k i := by
  induction k with
  | zero => exact Int.le_refl _
  | succ k ih =>
    have h1 := ih fun j hj => h j (by omega)
    rw [acc, acc]
    split
    · next e => have := h k (by omega) e.symm; omega
    · exact h1
theorem acc_dep {b : Nat → Int} {s : Nat → Nat} {v v' : Nat → Int} (k i : Nat) (h : ∀ j, j < k → s j = i → v j = v' j) : acc b s v k i = acc b s v' k i :=
  Int.le_antisymm (acc_le k i fun j hj e => Int.le_of_eq (h j hj e)) (acc_le k i fun j hj e => Int.le_of_eq (h j hj e).symm)

theorem step_mono {n : Nat} {o : Nat → Int} {m : Nat} {R : Nat → Rt} (hf : ∀ j, j < m → frN R j < n) {x y : Nat → Int} (h : ∀ i, i < n → x i ≤ y i ∧ y i ≤ 17592186044416) (i : Nat) : step o m R x i ≤ step o m R y i :=
  acc_le m i fun j hj _ => ced_mono _ _ _ (h _ (hf j hj)).1 (h _ (hf j hj)).2
theorem step_congr {n : Nat} {o : Nat → Int} {m : Nat} {R : Nat → Rt} (hf : ∀ j, j < m → frN R j < n) {x y : Nat → Int} (h : ∀ i, i < n → x i = y i) (i : Nat) : step o m R x i = step o m R y i :=
  acc_dep m i fun j hj _ => by unfold ceds; rw [h _ (hf j hj)]

theorem frN_lt {n : Nat} {o : Nat → Int} {m : Nat} {R : Nat → Rt} (hV : verr n o m R = 0) (j : Nat) (hj : j < m) : frN R j < n := by
  have := ((verr_fine hV).2.2.2.2 j hj).1
  unfold frN; omega
theorem toN_lt {n : Nat} {o : Nat → Int} {m : Nat} {R : Nat → Rt} (hV : verr n o m R = 0) (j : Nat) (hj : j < m) : toN R j < n := by
  have := ((verr_fine hV).2.2.2.2 j hj).1
  unfold toN; omega

/-- what holds at the start and is handed on holds of the result -/
theorem sett_inv {F : (Nat → Int) → Nat → Int} {n : Nat} (P : (Nat → Int) → Prop) (hP : ∀ x, P x → P (F x)) (f c : Nat) (x : Nat → Int) (L : Nat → Int) (c' : Nat) (h : sett F n f c x = some (L, c')) (hx : P x) : P L := by
  induction f generalizing c x with
  | zero => cases h
  | succ f ih =>
    rw [sett] at h
    split at h
    · injection h with h
      injection h with h1 h2
      rw [← h1]; exact hP x hx
    · exact ih _ _ h (hP x hx)
theorem sett_fix {F : (Nat → Int) → Nat → Int} {n : Nat} (f c : Nat) (x : Nat → Int) (L : Nat → Int) (c' : Nat) (h : sett F n f c x = some (L, c')) : ∃ y, L = F y ∧ ∀ i, i < n → F y i = y i := by
  induction f generalizing c x with
  | zero => cases h
  | succ f ih =>
    rw [sett] at h
    split at h
    · next he =>
      injection h with h
      injection h with h1 h2
      exact ⟨x, h1.symm, he⟩
    · exact ih _ _ h

theorem top_ge {n : Nat} {o : Nat → Int} {m : Nat} {R : Nat → Rt} (hV : verr n o m R = 0) (x : Nat → Int) (i : Nat) : step o m R x i ≤ top o m R i :=
  acc_le m i fun j hj _ => by
    unfold ceds ced
    have := ((verr_fine hV).2.2.2.2 j hj).2.2
    obtain ⟨p0, p1, p2, p3, p4, p5⟩ := this
    split <;> omega

/-- a solution lies between the least and the greatest one -/
theorem between {n : Nat} {o : Nat → Int} {m : Nat} {R : Nat → Rt} (hV : verr n o m R = 0) {x : Nat → Int} (hx : ∀ i, i < n → step o m R x i = x i) {f c : Nat} {L : Nat → Int} {c' : Nat} :
    (sett (step o m R) n f c o = some (L, c') → ∀ i, i < n → L i ≤ x i) ∧ (sett (step o m R) n f c (top o m R) = some (L, c') → ∀ i, i < n → x i ≤ L i) := by
  obtain ⟨hf1, hf2, hf3, hfo, hfr⟩ := verr_fine hV
  have hxb : ∀ i, i < n → x i ≤ 17592186044416 := fun i hi => by
    have h1 := step_bound o m R x i
    have h2 := hfo i hi
    rw [hx i hi] at h1
    omega
  constructor
  · intro h
    refine sett_inv (fun y => ∀ i, i < n → y i ≤ x i) (fun y hy i hi => ?_) f c o L c' h fun i hi => ?_
    · rw [← hx i hi]
      exact step_mono (frN_lt hV) (fun j hj => ⟨hy j hj, hxb j hj⟩) i
    · have h1 := step_bound o m R x i
      rw [hx i hi] at h1
      omega
  · intro h
    have := sett_inv (fun y => ∀ i, i < n → x i ≤ y i ∧ y i ≤ 17592186044416) (fun y hy i hi => ?_) f c (top o m R) L c' h fun i hi => ?_
    · exact fun i hi => (this i hi).1
    · have h1 := step_mono (o := o) (frN_lt hV) hy i
      rw [hx i hi] at h1
      have h2 := step_bound o m R y i
      have h3 := hfo i hi
      omega
    · have h1 := top_ge hV x i
      rw [hx i hi] at h1
      have h2 := acc_bound o (toN R) (fun j => (R j).li) 1073741824 m i (fun j hj => by have := (hfr j hj).2.2; exact ⟨by have := this.2.2.2.2.1; omega, this.2.2.2.2.2⟩) (by omega)
      have h3 := hfo i hi
      unfold top at h1 ⊢
      omega

/-- what the iteration ends with is a solution -/
theorem solution {n : Nat} {o : Nat → Int} {m : Nat} {R : Nat → Rt} (hV : verr n o m R = 0) {f c : Nat} {x L : Nat → Int} {c' : Nat} (h : sett (step o m R) n f c x = some (L, c')) : ∀ i, step o m R L i = L i := by
  obtain ⟨y, rfl, he⟩ := sett_fix f c x L c' h
  intro i
  exact step_congr (frN_lt hV) he i

/-- the sum of the first n -/
def tot (f : Nat → Int) : Nat → Int
  | 0 => 0
  | i + 1 => tot f i + f i
theorem tot_congr {f g : Nat → Int} (n : Nat) (h : ∀ i, i < n → f i = g i) : tot f n = tot g n := by
  induction n with
  | zero => rfl
  | succ n ih => rw [tot, tot, ih fun i hi => h i (by omega), h n (by omega)]
theorem tot_upd (f : Nat → Int) (q : Nat) (v : Int) (n : Nat) : tot (fun i => if i = q then f i + v else f i) n = tot f n + if q < n then v else 0 := by
  induction n with
  | zero => simp [tot]
  | succ n ih =>
    rw [tot, tot, ih]
    by_cases e : n = q
    · subst e
      rw [if_pos rfl, if_neg (by omega), if_pos (by omega)]
      omega
    · rw [if_neg e]
      by_cases h : q < n
      · rw [if_pos h, if_pos (by omega)]; omega
      · rw [if_neg h, if_neg (by omega)]; omega
theorem tot_acc (b : Nat → Int) (s : Nat → Nat) (v : Nat → Int) (n k : Nat) (hs : ∀ j, j < k → s j < n) : tot (acc b s v k) n = tot b n + tot v k := by
  induction k with
  | zero => simp [tot]; rfl
  | succ k ih =>
    have e : tot (acc b s v (k + 1)) n = tot (fun i => if i = s k then acc b s v k i + v k else acc b s v k i) n := tot_congr n fun i _ => by rw [acc]
    rw [e, tot_upd, ih fun j hj => hs j (by omega), if_pos (hs k (by omega)), tot]
    omega
theorem tot_neg (f : Nat → Int) (n : Nat) : tot (fun i => -f i) n = -tot f n := by
  induction n with
  | zero => rfl
  | succ n ih => rw [tot, tot, ih]; omega
theorem tot_sub (f g : Nat → Int) (n : Nat) : tot (fun i => f i - g i) n = tot f n - tot g n := by
  induction n with
  | zero => rfl
  | succ n ih => rw [tot, tot, tot, ih]; omega

/-- the net losses of a solution add up to the own losses -/
theorem net_sum {n : Nat} {o : Nat → Int} {m : Nat} {R : Nat → Rt} (hV : verr n o m R = 0) {x : Nat → Int} (hx : ∀ i, i < n → step o m R x i = x i) : tot (fun i => net m R x i - o i) n = 0 := by
  have h1 : tot (net m R x) n = tot x n + tot (fun j => -ceds R x j) m := tot_acc _ _ _ _ _ (frN_lt hV)
  have h2 : tot (step o m R x) n = tot o n + tot (ceds R x) m := tot_acc _ _ _ _ _ (toN_lt hV)
  rw [tot_congr n hx] at h2
  rw [tot_sub, h1, tot_neg]
  omega

theorem verr_shs {n : Nat} {o : Nat → Int} {m : Nat} {R : Nat → Rt} (hV : verr n o m R = 0) (i : Nat) (hi : i < n) : shs R m i ≤ 1000000 := by
  have h0 := hV
  unfold verr at hV
  obtain ⟨hf1, hf2, hf3, hfo, hfr⟩ := verr_fine h0
  rw [if_neg (by omega)] at hV
  by_cases h2 : scan (oc o) n 0 = 0
  · rw [if_neg (by rw [h2]; simp)] at hV
    by_cases h3 : scan (rc n R) m 0 = 0
    · rw [if_neg (by rw [h3]; simp), ← shares_same n m R h3] at hV
      have := scan_zero _ _ _ hV i (by omega) (by omega)
      unfold sr at this
      by_cases c : 1000000 < shs R m i
      · rw [if_pos c] at this; omega
      · omega
    · rw [if_pos h3] at hV; exact absurd hV h3
  · rw [if_pos h2] at hV; omega

theorem ced_part (r : Rt) (x : Int) (hx : 0 ≤ x) (hs : 0 ≤ r.sh) : 1000000 * ced r x ≤ x * r.sh := by
  unfold ced
  split
  · next h =>
    obtain ⟨⟨p0, p1, p2, p3, p4, p5⟩, h0, h1, h2⟩ := h
    have e : (x - r.re) * r.sh ≤ x * r.sh := Int.mul_le_mul_of_nonneg_right (by omega) hs
    have e2 := Int.mul_ediv_self_le (x := (x - r.re) * r.sh) (k := 1000000) (by omega)
    omega
  · have := Int.mul_nonneg hx hs
    omega

/-- no net loss is negative -/
theorem net_nonneg {n : Nat} {o : Nat → Int} {m : Nat} {R : Nat → Rt} (hV : verr n o m R = 0) {x : Nat → Int} (i : Nat) (hi : i < n) (hx : 0 ≤ x i) : 0 ≤ net m R x i := by
  obtain ⟨hf1, hf2, hf3, hfo, hfr⟩ := verr_fine hV
  have key : ∀ k, k ≤ m → 1000000 * (x i - acc x (frN R) (fun j => -ceds R x j) k i) ≤ x i * shs R k i := by
    intro k
    induction k with
    | zero => intro _; simp [acc, shs]
    | succ k ih =>
      intro hk
      have h1 := ih (by omega)
      by_cases e : i = frN R k
      · rw [shs, acc_hit _ _ e, acc_hit _ _ e, Int.mul_add]
        have h2 := ced_part (R k) (x i) hx (by have := (hfr k (by omega)).2.2.1; omega)
        have h3 : ceds R x k = ced (R k) (x i) := by rw [ceds, ← e]
        rw [h3]
        unfold shs at h1
        omega
      · rw [shs, acc_miss _ _ e, acc_miss _ _ e]
        exact h1
  have h1 := key m (Nat.le_refl _)
  have h2 : x i * shs R m i ≤ x i * 1000000 := Int.mul_le_mul_of_nonneg_left (verr_shs hV i hi) hx
  unfold net
  omega

/-- k steps -/
def itr (F : (Nat → Int) → Nat → Int) : Nat → (Nat → Int) → Nat → Int
  | 0, x => x
  | k + 1, x => F (itr F k x)
theorem itr_in (F : (Nat → Int) → Nat → Int) (k : Nat) (x : Nat → Int) : itr F k (F x) = F (itr F k x) := by
  induction k with
  | zero => rfl
  | succ k ih => rw [itr, itr, ih]

/-- without a circle the first k companies' losses are settled after k steps -/
theorem straight_settled {o : Nat → Int} {m : Nat} {R : Nat → Rt} (hs : ∀ j, j < m → frN R j < toN R j) (k : Nat) (x y : Nat → Int) : ∀ i, i < k → itr (step o m R) k x i = itr (step o m R) k y i := by
  induction k with
  | zero => intro i hi; omega
  | succ k ih =>
    intro i hi
    rw [itr, itr]
    refine acc_dep m i fun j hj e => ?_
    unfold ceds
    rw [ih (frN R j) (by have := hs j hj; omega)]

theorem sett_soon {F : (Nat → Int) → Nat → Int} {n : Nat} (q f c : Nat) (x : Nat → Int) (hf : q < f) (h : ∀ i, i < n → F (itr F q x) i = itr F q x i) : ∃ L c', sett F n f c x = some (L, c') ∧ c' ≤ c + q := by
  induction q generalizing f c x with
  | zero =>
    obtain ⟨f', rfl⟩ : ∃ f', f = f' + 1 := ⟨f - 1, by omega⟩
    exact ⟨F x, c, by rw [sett]; exact if_pos h, by omega⟩
  | succ q ih =>
    obtain ⟨f', rfl⟩ : ∃ f', f = f' + 1 := ⟨f - 1, by omega⟩
    rw [sett]
    split
    · exact ⟨_, _, rfl, by omega⟩
    · obtain ⟨L, c', h1, h2⟩ := ih f' (c + 1) (F x) (by omega) (by rw [itr_in]; exact h)
      exact ⟨L, c', h1, by omega⟩

/-- without a circle both iterations end, with one list -/
theorem straight {n : Nat} {o : Nat → Int} {m : Nat} {R : Nat → Rt} (hV : verr n o m R = 0) (hs : ∀ j, j < m → frN R j < toN R j) (x : Nat → Int) :
    (∃ L c', sett (step o m R) n 2000 1 x = some (L, c') ∧ c' ≤ n + 1) ∧ ∀ y f c f2 c2 L c' L2 c2', sett (step o m R) n f c x = some (L, c') → sett (step o m R) n f2 c2 y = some (L2, c2') → ∀ i, i < n → L i = L2 i := by
  have hn := (verr_fine hV).2.1
  constructor
  · obtain ⟨L, c', h1, h2⟩ := sett_soon (F := step o m R) (n := n) n 2000 1 x (by omega) fun i hi => by
      rw [← itr_in (step o m R) n x]
      exact straight_settled hs n (step o m R x) x i hi
    exact ⟨L, c', h1, by omega⟩
  · intro y f c f2 c2 L c' L2 c2' h1 h2 i hi
    have e1 := solution hV h1
    have e2 := solution hV h2
    have f1 : ∀ k i, itr (step o m R) k L i = L i := fun k => by
      induction k with
      | zero => intro i; rfl
      | succ k ih => intro i; rw [itr, step_congr (n := n) (frN_lt hV) (fun j _ => ih j) i, e1 i]
    have f2 : ∀ k i, itr (step o m R) k L2 i = L2 i := fun k => by
      induction k with
      | zero => intro i; rfl
      | succ k ih => intro i; rw [itr, step_congr (n := n) (frN_lt hV) (fun j _ => ih j) i, e2 i]
    rw [← f1 n i, ← f2 n i]
    exact straight_settled hs n L L2 i hi
end Go.Proofs.YtbeikfopneeodaaGreat.Re
namespace Go.Proofs.YtbeikfopneeodaaGreat
open Go.RowKit
set_option linter.unusedVariables false

theorem Re.verr_ok {n : Nat} {o : Nat → Int} {m : Nat} {R : Nat → Re.Rt} (hn1 : 1 ≤ n) (hn : n ≤ 16) (hm : m ≤ 24) (ho : ∀ i, i < n → 0 ≤ o i ∧ o i ≤ 1073741824)
    (hr : ∀ j, j < m → (0 ≤ (R j).fr ∧ (R j).fr < n ∧ 0 ≤ (R j).ds ∧ (R j).ds < n) ∧ (R j).fr ≠ (R j).ds ∧ Re.proper (R j)) (hs : ∀ i, i < n → Re.shs R m i ≤ 1000000) : Re.verr n o m R = 0 := by
  have h1 : scan (Re.oc o) n 0 = 0 := scan_fine _ _ _ fun j _ hj => if_pos (ho j (by omega))
  have h2 : scan (Re.rc n R) m 0 = 0 := scan_fine _ _ _ fun j _ hj => by
    obtain ⟨a, b, c⟩ := hr j (by omega)
    rw [Re.rc, if_neg (fun c => c a), if_neg b, if_neg (fun x => x c)]
  rw [Re.verr, if_neg (by omega), if_neg (by rw [h1]; simp), if_neg (by rw [h2]; simp), ← Re.shares_same n m R h2]
  exact scan_fine _ _ _ fun j _ hj => if_neg (by have := hs j (by omega); omega)

/-- what the deck makes, for the laws -/
theorem retros_use {b : Nat} {w w' : World} {e : Ending} (h : RetrosPost b w e w') (hb : b < w.heap.size) : ∃ (g n m : Nat) (A2 : Option Addr) (c2 : Nat) (o : Nat → Int) (R : Nat → Re.Rt), e = .returned (.tuple #[.slice (some ⟨g, 0, none⟩) n n, .slice A2 m c2]) ∧ 1 ≤ n ∧ n ≤ 5 ∧ m ≤ 6 ∧ w.heap.size ≤ g ∧
    Row w' g n 3 (fun i => .int .i64 (o i)) ∧ OwnR w' w.heap.size (.slice A2 m c2) m R ∧ Nums w' w'.heap.size (some ⟨g, 0, none⟩) n o ∧ Rets w' w'.heap.size A2 m R ∧ (∀ ad, A2 = some ad → w.heap.size ≤ ad.block ∧ ad.block ≠ g) ∧ (∀ i, i < n → 0 ≤ o i ∧ o i ≤ 268435455) ∧
    (∀ j, j < m → (0 ≤ (R j).fr ∧ (R j).fr < n ∧ 0 ≤ (R j).ds ∧ (R j).ds < n) ∧ (R j).fr ≠ (R j).ds ∧ Re.proper (R j) ∧ (R j).li ≤ 300) ∧ Re.verr n o m R = 0 ∧ Keeps b w w' ∧ IsDeck w' b := by
  obtain ⟨g, n, m, v, o, R, rfl, h1, h2, h3, h4, h5, h6, h7, h8, h9, h10, h11, h12⟩ := h
  obtain ⟨A2, c2, rfl, hr, hA, hg⟩ := h6.rets
  refine ⟨g, n, m, A2, c2, o, R, rfl, h1, h2, h3, h4, h5, h6, h5.cells, hr, fun ad e => ⟨hA ad e, ?_⟩, h8, h9, Re.verr_ok h1 (by omega) (by omega) (fun i hi => by have := h8 i hi; omega) (fun j hj => ⟨(h9 j hj).1, (h9 j hj).2.1, (h9 j hj).2.2.1⟩) h10, h11, h12⟩
  subst e
  rcases h6.2 with ⟨hv, _⟩ | ⟨q, cap, cur, hv, _⟩
  · cases hv
  · injection hv with hv
    injection hv with hv
    subst hv
    exact h7 q rfl
end Go.Proofs.YtbeikfopneeodaaGreat
namespace Go.Proofs.YtbeikfopneeodaaGreat
open Go.RowKit
set_option linter.unusedVariables false

theorem Re.tot_within (f : Nat → Int) (M : Int) (k : Nat) (h : ∀ i, i < k → 0 ≤ f i ∧ f i ≤ M) : 0 ≤ Re.tot f k ∧ Re.tot f k ≤ M * k := by
  induction k with
  | zero => simp [Re.tot]
  | succ k ih =>
    have h1 := ih fun i hi => h i (by omega)
    have h2 := h k (by omega)
    rw [Re.tot, show M * ((k + 1 : Nat) : Int) = M * k + M by rw [Int.natCast_succ, Int.mul_add, Int.mul_one]]
    omega

set_option maxHeartbeats 1000000 in
theorem total_any (A : Option Addr) (n c : Nat) (f : Nat → Int) (B : Nat) (w : World) (hn : n ≤ 16) (h : Nums w B A n f) (hf : ∀ i, i < n → 0 ≤ f i ∧ f i ≤ 35184372088832) :
    Calls Tryz.prog 12 #[.slice A n c] w fun e w' => e = .returned (.int .i64 (Re.tot f n)) ∧ ∃ m, w' = w.drewN m := by
  have H := Lib.hid h
  have HB : Hid (∀ k, k ≤ n → 0 ≤ Re.tot f k ∧ Re.tot f k ≤ 35184372088832 * k) := Lib.hid fun k hk => Re.tot_within _ _ k fun i hi => hf i (by omega)
  have HF := Lib.hid hf
  clear h hf
  go_enter Tryz.func12, Tryz.ntmps12
  go_wp2_with fail
  go_loopw [3, 4] (fun s i wr => ∃ k : Nat, k ≤ n ∧ i = .int .i64 k ∧ s = .int .i64 (Re.tot f k) ∧ ∃ nn, wr = w.drewN nn) (fun _ i _ => n - (intOf i).toNat)
  case atStart => exact ⟨0, Nat.zero_le _, rfl, rfl, 0, rfl⟩
  case round =>
    obtain ⟨k, hk, rfl, rfl, nn, rfl⟩ := hrel
    by_cases hlt : k < n
    · obtain ⟨b1, f1, rfl, _, hc1⟩ := H.out.get hlt
      obtain ⟨u, hu⟩ : ∃ u, f k = u := ⟨_, rfl⟩
      have hub := HF.out k hlt
      have htb := HB.out k hk
      obtain ⟨s, hs⟩ : ∃ s, Re.tot f k = s := ⟨_, rfl⟩
      have HS : Hid (Re.tot f (k + 1) = s + u) := Lib.hid (by rw [Re.tot, hs, hu])
      rw [hu] at hc1 hub
      rw [hs] at htb ⊢
      obtain ⟨hu0, hu1⟩ := hub
      obtain ⟨hs0, hs1⟩ := htb
      have hs2 : s ≤ 562949953421312 := by omega
      have hq0 : (0 : Int) ≤ k := by omega
      have hq1 : (k : Int) < n := by omega
      have hw2 : IntKind.i64.wrap (s + u) = s + u := by rw [IntKind.wrap_i64]; omega
      clear hu hs hs1
      go_wp2_with fail
      go_roundw
      case rel => exact ⟨k + 1, by omega, by go_num, by rw [HS.out], _, by first | rfl | exact World.drewN_drewN _ _ _⟩
      case measure => simp [intOf]; omega
    · have hkn : k = n := by omega
      subst hkn
      go_wp2_with fail
      go_ret
      exact ⟨rfl, nn, rfl⟩
end Go.Proofs.YtbeikfopneeodaaGreat
