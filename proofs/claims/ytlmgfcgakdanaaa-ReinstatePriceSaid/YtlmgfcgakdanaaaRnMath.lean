/- Reinstatements in plain words: prices, uses, and the laws about them. No program in sight. -/
import Derived.Test.YtlmgfcgakdanaaaCoMath
import Derived.Test.YtlmgfcgakdanaaaTyMath
namespace Go.Proofs.Ytlmgfcgakdanaaa

theorem psum_congr {f g : Nat → Int} : ∀ n, (∀ j, j < n → f j = g j) → Ex.psum f n = Ex.psum g n := fun n => by
  induction n with
  | zero => intro _; rfl
  | succ n ih => intro h; rw [Ex.psum, Ex.psum, ih fun j hj => h j (by omega), h n (by omega)]
theorem psum_le {f g : Nat → Int} : ∀ n, (∀ j, j < n → f j ≤ g j) → Ex.psum f n ≤ Ex.psum g n := fun n => by
  induction n with
  | zero => intro _; exact Int.le_refl _
  | succ n ih => intro h; rw [Ex.psum, Ex.psum]; have := ih fun j hj => h j (by omega); have := h n (by omega); omega
theorem psum_nonneg {f : Nat → Int} : ∀ n, (∀ j, j < n → 0 ≤ f j) → 0 ≤ Ex.psum f n := fun n => by
  induction n with
  | zero => intro _; exact Int.le_refl _
  | succ n ih => intro h; rw [Ex.psum]; have := ih fun j hj => h j (by omega); have := h n (by omega); omega
theorem psum_mono {f : Nat → Int} {m : Nat} : ∀ n, m ≤ n → (∀ j, j < n → 0 ≤ f j) → Ex.psum f m ≤ Ex.psum f n := fun n => by
  induction n with
  | zero => intro h _; obtain rfl : m = 0 := (by omega); exact Int.le_refl _
  | succ n ih =>
    intro h hf
    by_cases e : m = n + 1
    · subst e; exact Int.le_refl _
    · have := ih (by omega) fun j hj => hf j (by omega)
      have := hf n (by omega)
      rw [Ex.psum]; omega
/-- differences add up -/
theorem psum_tele (F : Nat → Int) : ∀ n, Ex.psum (fun i => F (i + 1) - F i) n = F n - F 0 := fun n => by
  induction n with
  | zero => simp [Ex.psum]
  | succ n ih => rw [Ex.psum, ih]; omega

namespace Rn
/-- what is used of the j-th limit -/
def cl (L used : Int) (j : Nat) : Int := min (max (used - j * L) 0) L
def stp (P L : Int) (f : Nat → Int) (used : Int) (j : Nat) : Int := Am.hu (Co.part P (f j) * cl L used j) L
/-- what n reinstatements cost -/
def price (P L : Int) (f : Nat → Int) (n : Nat) (used : Int) : Int := Ex.psum (stp P L f used) n

/-- what is asked of a treaty here -/
structure Fit (P L : Int) (f : Nat → Int) (n : Nat) : Prop where
  p0 : 0 ≤ P
  p1 : P ≤ 1073741824
  l0 : 1 ≤ L
  l1 : L ≤ 1073741824
  n8 : n ≤ 8
  f0 : ∀ j, j < n → 0 ≤ f j ∧ f j ≤ 2000000

section
variable {P L : Int} {f : Nat → Int} {n : Nat}
theorem cl_bound {L used : Int} (h : 1 ≤ L) (j : Nat) : 0 ≤ cl L used j ∧ cl L used j ≤ L := by unfold cl; omega
theorem cl_mono {L u v : Int} (h : u ≤ v) (j : Nat) : cl L u j ≤ cl L v j := by unfold cl; omega
theorem cl_zero {L : Int} (h : 1 ≤ L) (j : Nat) : cl L 0 j = 0 := by
  have : 0 ≤ (j : Int) * L := Int.mul_nonneg (by omega) (by omega)
  unfold cl; omega

theorem full_md (h : Fit P L f n) {j : Nat} (hj : j < n) : Am.md P (f j) 1000000 4 = (Co.part P (f j), 0) ∧ 0 ≤ Co.part P (f j) ∧ Co.part P (f j) ≤ 10 * P := by
  have := h.p0; have := h.p1; have := h.f0 j hj
  exact Co.part_md ⟨by omega, by omega⟩ ⟨by omega, by omega⟩
theorem stp_md (h : Fit P L f n) {j : Nat} (hj : j < n) (used : Int) :
    Am.md (Co.part P (f j)) (cl L used j) L 4 = (stp P L f used j, 0) ∧ 0 ≤ stp P L f used j ∧ stp P L f used j ≤ Co.part P (f j) := by
  have h1 := full_md h hj
  have h2 := cl_bound (used := used) h.l0 j
  have h3 := Am.hu_part (Co.part P (f j)) (cl L used j) L h1.2.1 h2.1 h2.2 h.l0
  have := h.p1; have := h.l1
  refine ⟨?_, h3⟩
  rw [Am.md_hu _ _ _ h1.2.1 (by omega) h2.1 (by omega) h.l0 (by omega), if_neg (by omega)]
  rfl
theorem stp_bound (h : Fit P L f n) {j : Nat} (hj : j < n) (used : Int) : 0 ≤ stp P L f used j ∧ stp P L f used j ≤ 10737418240 := by
  have h1 := (stp_md h hj used).2
  have h2 := (full_md h hj).2.2
  have := h.p1
  omega
theorem price_bound (h : Fit P L f n) (used : Int) (k : Nat) (hk : k ≤ n) : 0 ≤ price P L f k used ∧ price P L f k used ≤ 10737418240 * k :=
  Ex.psum_bound _ _ _ fun j hj => stp_bound h (by omega) used
theorem price_bound8 (h : Fit P L f n) (used : Int) : 0 ≤ price P L f n used ∧ price P L f n used ≤ 85899345920 := by
  have h1 := price_bound h used n (Nat.le_refl _)
  have := h.n8
  omega
theorem stp_mono (h : Fit P L f n) {j : Nat} (hj : j < n) {u v : Int} (huv : u ≤ v) : stp P L f u j ≤ stp P L f v j :=
  Am.hu_mono (by have := h.l0; omega) (Int.mul_le_mul_of_nonneg_left (cl_mono huv j) (full_md h hj).2.1)
theorem price_mono (h : Fit P L f n) {u v : Int} (huv : u ≤ v) : price P L f n u ≤ price P L f n v := psum_le n fun _ hj => stp_mono h hj huv
theorem price_zero (h : Fit P L f n) : price P L f n 0 = 0 := by
  have e : price P L f n 0 = Ex.psum (fun _ => 0) n := psum_congr n fun j _ => by
    rw [stp, cl_zero h.l0, Int.mul_zero, Am.hu_zero _ (by have := h.l0; omega)]
  rw [e]
  have h1 := psum_le (f := fun _ => 0) (g := fun _ => 0) n fun _ _ => Int.le_refl _
  clear e h1
  induction n with
  | zero => rfl
  | succ k ih => rw [Ex.psum, ih ⟨h.p0, h.p1, h.l0, h.l1, by have := h.n8; omega, fun j hj => h.f0 j (by omega)⟩]; rfl
theorem price_full (h : Fit P L f n) (u : Int) : price P L f n u ≤ Ex.psum (fun j => Co.part P (f j)) n := psum_le n fun _ hj => (stp_md h hj u).2.2
theorem full_bound (h : Fit P L f n) (k : Nat) (hk : k ≤ n) : 0 ≤ Ex.psum (fun j => Co.part P (f j)) k ∧ Ex.psum (fun j => Co.part P (f j)) k ≤ 10737418240 * k :=
  Ex.psum_bound _ _ _ fun j hj => by have := full_md h (j := j) (by omega); have := h.p1; omega
end

/-- the capacity, and the most that is paid -/
def cap (n : Nat) (L : Int) : Int := if n = 0 then 0 else (n + 1) * L
def most (c agg : Int) : Int := if c ≠ 0 ∧ (agg = 0 ∨ c < agg) then c else agg
/-- what is paid of a sum -/
def g (d m x : Int) : Int := Ex.layer x d (if m = 0 then 17592186044416 else m)
theorem g_bound (d m x : Int) : 0 ≤ g d m x ∧ g d m x ≤ 17592186044416 := Ex.layer_bound _ _ _
theorem g_is {d m x : Int} (d0 : 0 ≤ d) (d1 : d ≤ 17592186044416) (m0 : 0 ≤ m) (m1 : m ≤ 17592186044416) (x0 : 0 ≤ x) (x1 : x ≤ 17592186044416) :
    g d m x = if 0 < m then min (max (x - d) 0) m else max (x - d) 0 := by
  unfold g Ex.layer Ex.lim
  split <;> split <;> omega
theorem g_mono (d m : Int) {x y : Int} (h : x ≤ y) : g d m x ≤ g d m y := by
  unfold g Ex.layer Ex.lim
  split <;> omega
theorem g_step (d m : Int) {x y : Int} (h : x ≤ y) : g d m y - g d m x ≤ y - x := by
  unfold g Ex.layer Ex.lim
  split <;> omega
theorem g_zero {d : Int} (m : Int) (d0 : 0 ≤ d) : g d m 0 = 0 := by
  unfold g Ex.layer Ex.lim
  split <;> omega
theorem g_most {d m : Int} (x : Int) (h : m ≠ 0) (m0 : 0 ≤ m) (m1 : m ≤ 17592186044416) : g d m x ≤ m := by
  unfold g Ex.layer Ex.lim
  rw [if_neg h]
  omega

/-- the sum before the i-th event that is paid -/
def at' (d m : Int) (l : Nat → Int) (i : Nat) : Int := g d m (Ex.psum l i)
def paid (d m : Int) (l : Nat → Int) (i : Nat) : Int := at' d m l (i + 1) - at' d m l i
theorem psum_paid {d : Int} (m : Int) (l : Nat → Int) (n : Nat) (d0 : 0 ≤ d) : Ex.psum (paid d m l) n = at' d m l n := by
  have h := psum_tele (at' d m l) n
  have e : at' d m l 0 = 0 := g_zero m d0
  rw [e, Int.sub_zero] at h
  exact h
theorem at_mono {d m : Int} {l : Nat → Int} {i n : Nat} (hl : ∀ j, j < n → 0 ≤ l j) (hi : i < n) : at' d m l i ≤ at' d m l (i + 1) :=
  g_mono d m (by rw [Ex.psum]; have := hl i hi; omega)
theorem paid_bound {d m : Int} {l : Nat → Int} {i n : Nat} (hl : ∀ j, j < n → 0 ≤ l j) (hi : i < n) : 0 ≤ paid d m l i ∧ paid d m l i ≤ l i := by
  have h1 := at_mono (d := d) (m := m) hl hi
  have h2 := g_step d m (x := Ex.psum l i) (y := Ex.psum l (i + 1)) (by rw [Ex.psum]; have := hl i hi; omega)
  have e : Ex.psum l (i + 1) = Ex.psum l i + l i := rfl
  unfold paid at' at *
  omega

/-- what is reinstated, and what it costs -/
def rein (F u v : Int) : Int := min v F - min u F
def days (a b : Int) : Int := (b - a + 23) / 24
def gone (a b h : Int) : Int := if h ≤ a then 0 else if b ≤ h then days a b else (h - a + 23) / 24
theorem days_pos {a b : Int} (h : a < b) : 1 ≤ days a b := by unfold days; omega
theorem days_le {a b : Int} (h0 : 0 ≤ a) (h1 : b ≤ 876600) : days a b ≤ 36526 := by unfold days; omega
theorem gone_bound {a b h : Int} (hab : a < b) : 0 ≤ gone a b h ∧ gone a b h ≤ days a b := by
  unfold gone days
  split
  · omega
  · split <;> omega
def prem (timed : Bool) (a b h x : Int) : Int := if timed = true then Am.hu (x * (days a b - gone a b h)) (days a b) else x
theorem prem_md {a b h x : Int} (hab : a < b) (h0 : 0 ≤ a) (h1 : b ≤ 876600) (x0 : 0 ≤ x) (x1 : x ≤ 17592186044416) :
    Am.md x (days a b - gone a b h) (days a b) 4 = (prem true a b h x, 0) ∧ 0 ≤ prem true a b h x ∧ prem true a b h x ≤ x := by
  have h2 := gone_bound (h := h) hab
  have h3 := days_pos hab
  have h4 := days_le h0 h1
  have h5 := Am.hu_part x (days a b - gone a b h) (days a b) x0 (by omega) (by omega) h3
  have e : prem true a b h x = Am.hu (x * (days a b - gone a b h)) (days a b) := if_pos rfl
  rw [e]
  refine ⟨?_, h5⟩
  rw [Am.md_hu _ _ _ x0 x1 (by omega) (by omega) h3 (by omega), if_neg (by omega)]
theorem prem_bound (timed : Bool) {a b h x : Int} (hab : a < b) (h0 : 0 ≤ a) (h1 : b ≤ 876600) (x0 : 0 ≤ x) (x1 : x ≤ 17592186044416) : 0 ≤ prem timed a b h x ∧ prem timed a b h x ≤ x := by
  cases timed
  · unfold prem; simp; exact x0
  · exact (prem_md hab h0 h1 x0 x1).2

/-- the faults of events -/
def ec (h l : Nat → Int) (i : Nat) : Int := if Ex.hourP (h i) ∧ Ex.amt (l i) then 0 else 1
def eerr (nh : Nat) (h : Nat → Int) (n : Nat) (l : Nat → Int) : Int :=
  if 64 < n ∨ nh ≠ n then 4 else if scan (ec h l) n 0 ≠ 0 then 1 else if 17592186044416 < Ex.psum l n then 3 else 0
theorem ec_fine {h l : Nat → Int} {i : Nat} (a : Ex.hourP (h i) ∧ Ex.amt (l i)) : ec h l i = 0 := if_pos a
theorem ec_bad {h l : Nat → Int} {i : Nat} (a : ¬ (Ex.hourP (h i) ∧ Ex.amt (l i))) : ec h l i = 1 := if_neg a
theorem eerr_fine {nh n : Nat} {h l : Nat → Int} (e : eerr nh h n l = 0) : n ≤ 64 ∧ nh = n ∧ (∀ i, i < n → Ex.hourP (h i) ∧ Ex.amt (l i)) ∧ Ex.psum l n ≤ 17592186044416 := by
  unfold eerr at e
  split at e
  · omega
  · split at e
    · omega
    · split at e
      · omega
      · rename_i h1 h2 h3
        refine ⟨by omega, by omega, fun i hi => ?_, by omega⟩
        have := scan_zero _ _ _ (Classical.not_not.1 h2) i (by omega) (by omega)
        unfold ec at this
        split at this
        · assumption
        · omega
end Rn

/-- the errors of check, and the numbers of a treaty -/
def Ty.xerr (t : Ty) : Int := firstErr [t.err, if t.kind = 4 ∨ t.kind = 5 then 0 else 11]
theorem Ty.xfine {t : Ty} (h : t.xerr = 0) : t.err = 0 ∧ (t.kind = 4 ∨ t.kind = 5) := by
  have hz := firstErr_zero h
  refine ⟨hz t.err (by simp), ?_⟩
  have := hz (if t.kind = 4 ∨ t.kind = 5 then 0 else 11) (by simp)
  split at this
  · assumption
  · omega
theorem Ty.xspans {t : Ty} (h : t.xerr = 0) : (1 ≤ t.lim ∧ t.lim ≤ 1073741824) ∧ (0 ≤ t.prem ∧ t.prem ≤ 1073741824) ∧ (0 ≤ t.ded ∧ t.ded ≤ 1073741824) ∧ (0 ≤ t.agg ∧ t.agg ≤ 1073741824) ∧ (0 ≤ t.ret ∧ t.ret ≤ 1073741824) := by
  obtain ⟨he, hk⟩ := Ty.xfine h
  have hf := (Ty.fine he).2.2.2.1
  have h5 := Ty.span hf 5 (by omega)
  have h10 := Ty.span hf 10 (by omega)
  have h7 := Ty.span hf 7 (by omega)
  have h8 := Ty.span hf 8 (by omega)
  have h4 := Ty.span hf 4 (by omega)
  rcases hk with hk | hk
  all_goals
    rw [hk] at h5 h10 h7 h8 h4
    simp [Ty.lo, Ty.hi, Ty.tab, Ty.val] at h5 h10 h7 h8 h4
    omega
theorem Ty.fit {t : Ty} (h : t.xerr = 0) : Rn.Fit t.prem t.lim t.fre t.nre := by
  have h1 := Ty.xspans h
  have h2 := Ty.fine (Ty.xfine h).1
  exact ⟨h1.2.1.1, h1.2.1.2, h1.1.1, h1.1.2, h2.2.2.2.2.1, h2.2.2.2.2.2⟩

def Ty.cap (t : Ty) : Int := if t.xerr = 0 then Rn.cap t.nre t.lim else 0
def Ty.most (t : Ty) : Int := Rn.most t.cap t.agg
theorem Ty.cap_bound {t : Ty} (h : t.xerr = 0) : 0 ≤ t.cap ∧ t.cap ≤ 9663676416 := by
  have h1 := Ty.xspans h
  have h2 := (Ty.fine (Ty.xfine h).1).2.2.2.2.1
  unfold Ty.cap Rn.cap
  rw [if_pos h]
  split
  · omega
  · have h3 : (t.nre + 1 : Int) * t.lim ≤ 9 * 1073741824 := Int.mul_le_mul (by omega) h1.1.2 (by omega) (by omega)
    have h4 : 0 ≤ (t.nre + 1 : Int) * t.lim := Int.mul_nonneg (by omega) (by omega)
    omega
theorem Ty.most_bound {t : Ty} (h : t.xerr = 0) : 0 ≤ t.most ∧ t.most ≤ 9663676416 := by
  have h1 := Ty.xspans h
  have h2 := Ty.cap_bound h
  unfold Ty.most Rn.most
  split <;> omega
theorem Ty.most_le {t : Ty} (h : t.xerr = 0) (x : Int) (d : Int) : (t.agg = 0 ∨ Rn.g d t.most x ≤ t.agg) ∧ (t.cap = 0 ∨ Rn.g d t.most x ≤ t.cap) := by
  have h1 := Ty.xspans h
  have h2 := Ty.cap_bound h
  have h3 := Ty.most_bound h
  by_cases e : t.most = 0
  · unfold Ty.most Rn.most at e
    split at e
    · omega
    · rename_i hn
      exact ⟨.inl e, .inl (by omega)⟩
  · have h4 := Rn.g_most (d := d) x e h3.1 (by omega)
    have h5 : (t.agg = 0 ∨ t.most ≤ t.agg) ∧ (t.cap = 0 ∨ t.most ≤ t.cap) := by
      unfold Ty.most Rn.most
      split <;> omega
    omega
end Go.Proofs.Ytlmgfcgakdanaaa
