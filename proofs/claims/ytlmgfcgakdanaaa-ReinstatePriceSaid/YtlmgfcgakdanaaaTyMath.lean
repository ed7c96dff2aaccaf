/- Treaties in plain words: the fields, and the first fault. No program in sight. -/
import Derived.Test.YtlmgfcgakdanaaaExMath
import Derived.Test.YtlmgfcgakdanaaaPairsOwn
namespace Go.Proofs.Ytlmgfcgakdanaaa
open Go.RowKit

/-- a treaty: the numbers, and its five lists (address, length, capacity, elements) -/
structure Ty where
  id : Int
  kind : Int
  pf : Int
  pt : Int
  risk : Int
  cess : Int
  line : Int
  lines : Int
  ret : Int
  lim : Int
  win : Int
  ded : Int
  agg : Int
  prem : Int
  timed : Bool
  base : Int
  Ape : Option Addr
  npe : Nat
  cpe : Nat
  fpe : Nat → Int
  Aar : Option Addr
  nar : Nat
  car : Nat
  far : Nat → Int
  Are : Option Addr
  nre : Nat
  cre : Nat
  fre : Nat → Int
  Ain : Option Addr
  nin : Nat
  cin : Nat
  fin : Nat → Int
  Apa : Option Addr
  npa : Nat
  cpa : Nat
  fpa : Nat → Int
  gpa : Nat → Int

/-- the cells of a treaty -/
abbrev Ty.cells (t : Ty) : Array Value :=
  #[.int .i64 t.id, .int .i64 t.kind, .int .i64 t.pf, .int .i64 t.pt, .slice t.Ape t.npe t.cpe, .slice t.Aar t.nar t.car, .int .i64 t.risk, .int .i64 t.cess, .int .i64 t.line, .int .i64 t.lines,
    .int .i64 t.ret, .int .i64 t.lim, .int .i64 t.win, .int .i64 t.ded, .int .i64 t.agg, .int .i64 t.prem, .slice t.Are t.nre t.cre, .bool t.timed, .int .i64 t.base, .slice t.Ain t.nin t.cin, .slice t.Apa t.npa t.cpa]

/-- the lists of a treaty lie below block B -/
structure Ty.In (t : Ty) (w : World) (B : Nat) : Prop where
  pe : Nums w B t.Ape t.npe t.fpe
  ar : Nums w B t.Aar t.nar t.far
  re : Nums w B t.Are t.nre t.fre
  inu : Nums w B t.Ain t.nin t.fin
  pa : Pairs w B t.Apa t.npa t.fpa t.gpa
  lpe : t.npe ≤ 9223372036854775807
  lar : t.nar ≤ 9223372036854775807
  lre : t.nre ≤ 9223372036854775807
  lin : t.nin ≤ 9223372036854775807
  lpa : t.npa ≤ 9223372036854775807

section
variable {w w' : World} {B B' : Nat} {t : Ty}
theorem Ty.In.below (h : t.In w B) (hb : Below B w w') : t.In w' B :=
  ⟨h.pe.below hb, h.ar.below hb, h.re.below hb, h.inu.below hb, h.pa.below hb, h.lpe, h.lar, h.lre, h.lin, h.lpa⟩
theorem Ty.In.mono (h : t.In w B) (hB : B ≤ B') : t.In w B' :=
  ⟨h.pe.mono hB, h.ar.mono hB, h.re.mono hB, h.inu.mono hB, h.pa.mono hB, h.lpe, h.lar, h.lre, h.lin, h.lpa⟩
theorem Ty.In.drewN (h : t.In w B) (n : Nat) : t.In (w.drewN n) B := ⟨h.pe, h.ar, h.re, h.inu, h.pa, h.lpe, h.lar, h.lre, h.lin, h.lpa⟩
theorem Ty.In.alloc (h : t.In w B) (hB : B ≤ w.heap.size) (o : Obj) : t.In (w.alloc o) B := h.below ((Below.refl B w).alloc hB o)
theorem Ty.In.keeps {b : Nat} (h : t.In w B) (hk : Keeps b w w') (hb : B ≤ b) : t.In w' B :=
  ⟨Cells.keeps h.pe hk hb, Cells.keeps h.ar hk hb, Cells.keeps h.re hk hb, Cells.keeps h.inu hk hb, Cells.keeps h.pa hk hb, h.lpe, h.lar, h.lre, h.lin, h.lpa⟩
end

/-- the first code that is not 0 -/
def firstErr : List Int → Int
  | [] => 0
  | a :: l => if a = 0 then firstErr l else a
theorem firstErr_stop {a : Int} {l : List Int} (h : a ≠ 0) : firstErr (a :: l) = a := if_neg h
theorem firstErr_go (l : List Int) : firstErr (0 :: l) = firstErr l := if_pos rfl
theorem firstErr_zero {l : List Int} (h : firstErr l = 0) : ∀ a ∈ l, a = 0 := by
  induction l with
  | nil => intro a ha; cases ha
  | cons x l ih =>
    by_cases e : x = 0
    · subst e
      rw [firstErr_go] at h
      intro a ha
      rcases List.mem_cons.1 ha with rfl | ha
      · rfl
      · exact ih h a ha
    · rw [firstErr_stop e] at h
      exact absurd h e
theorem firstErr_fine {l : List Int} (h : ∀ a ∈ l, a = 0) : firstErr l = 0 := by
  induction l with
  | nil => rfl
  | cons x l ih =>
    have e : x = 0 := h x (by simp)
    subst e
    rw [firstErr_go]
    exact ih fun a ha => h a (by simp [ha])

namespace Ty
/-- the spans of the fields of a kind: risk, cession, line, lines, retention, limit, window, deductible, aggregate, base, premium -/
def tab (k : Int) : List (Int × Int) :=
  if k = 1 then [(0, 0), (1, 1000000), (0, 0), (0, 0), (0, 0), (0, 1073741824), (0, 0), (0, 0), (0, 0), (0, 0), (0, 1073741824)]
  else if k = 2 then [(0, 0), (0, 0), (1, 1073741824), (1, 100), (0, 0), (0, 0), (0, 0), (0, 0), (0, 0), (0, 0), (0, 1073741824)]
  else if k = 3 then [(1, 1048576), (1, 1000000), (0, 0), (0, 0), (0, 0), (0, 0), (0, 0), (0, 0), (0, 0), (0, 0), (0, 1073741824)]
  else if k = 4 then [(0, 0), (0, 0), (0, 0), (0, 0), (0, 1073741824), (1, 1073741824), (0, 0), (0, 1073741824), (0, 1073741824), (0, 1000000000), (0, 1073741824)]
  else if k = 5 then [(0, 0), (0, 0), (0, 0), (0, 0), (0, 1073741824), (1, 1073741824), (1, 8784), (0, 1073741824), (0, 1073741824), (0, 0), (0, 1073741824)]
  else if k = 6 then [(0, 0), (0, 0), (0, 0), (0, 0), (0, 1073741824), (1, 1073741824), (0, 0), (0, 0), (0, 0), (0, 0), (0, 1073741824)]
  else [(0, 0), (0, 0), (0, 0), (0, 0), (0, 0), (0, 0), (0, 0), (0, 0), (0, 0), (0, 0), (0, 1073741824)]
def lo (k : Int) (i : Nat) : Int := ((tab k).getD i (0, 0)).1
def hi (k : Int) (i : Nat) : Int := ((tab k).getD i (0, 0)).2

def val (t : Ty) : Nat → Int
  | 0 => t.risk
  | 1 => t.cess
  | 2 => t.line
  | 3 => t.lines
  | 4 => t.ret
  | 5 => t.lim
  | 6 => t.win
  | 7 => t.ded
  | 8 => t.agg
  | 9 => t.base
  | _ => t.prem

/-- a field that the kind does not have, and one out of its span -/
def fc1 (k : Int) (v : Nat → Int) (i : Nat) : Int := if (lo k i = 0 ∧ hi k i = 0) ∧ v i ≠ 0 then 20 else 0
def fc2 (k : Int) (v : Nat → Int) (i : Nat) : Int := if ¬ (lo k i = 0 ∧ hi k i = 0) ∧ ¬ (lo k i ≤ v i ∧ v i ≤ hi k i) then 1 else 0
def ferr (t : Ty) : Int :=
  firstErr [scan (fc1 t.kind t.val) 11 0, if 0 < t.nre ∧ t.kind ≠ 4 ∧ t.kind ≠ 5 then 20 else 0, if t.nre = 0 ∧ t.timed = true then 20 else 0, scan (fc2 t.kind t.val) 11 0]

/-- lists in ascending order -/
def ac (a b : Int) (f : Nat → Int) (i : Nat) : Int := if ¬ (a ≤ f i ∧ f i ≤ b) then 1 else if 0 < i ∧ f i ≤ f (i - 1) then 13 else 0
def asc (a b : Int) (n : Nat) (f : Nat → Int) : Int := scan (ac a b f) n 0
/-- participations -/
def pc (f g : Nat → Int) (i : Nat) : Int := if ¬ ((1 ≤ f i ∧ f i ≤ 15) ∧ (1 ≤ g i ∧ g i ≤ 1000000)) then 1 else if 0 < i ∧ f i ≤ f (i - 1) then 13 else 0
def perr0 (n : Nat) (f g : Nat → Int) : Int := if 12 < n then 4 else scan (pc f g) n 0
def perr (n : Nat) (f g : Nat → Int) : Int := if perr0 n f g ≠ 0 then perr0 n f g else if 1000000 < Ex.psum g n then 14 else 0
def rc (f : Nat → Int) (i : Nat) : Int := if ¬ (0 ≤ f i ∧ f i ≤ 2000000) then 1 else 0
def hasB (f : Nat → Int) (n : Nat) (x : Int) : Bool := decide (∃ i, i < n ∧ f i = x)
def perP (a b : Int) : Bool := decide (0 ≤ a ∧ a < b ∧ b ≤ 876600)

def err (t : Ty) : Int :=
  firstErr [if 1 ≤ t.id ∧ t.id ≤ 1048576 then 0 else 1, if 1 ≤ t.kind ∧ t.kind ≤ 6 then 0 else 11, if perP t.pf t.pt = true then 0 else 12, asc 0 15 t.npe t.fpe, asc 0 15 t.nar t.far, t.ferr,
    if 8 < t.nre then 4 else 0, scan (rc t.fre) t.nre 0, if 12 < t.nin then 4 else 0, asc 1 1048576 t.nin t.fin, if hasB t.fin t.nin t.id = true then 10 else 0, perr t.npa t.fpa t.gpa]

theorem ac_bad {a b : Int} {f : Nat → Int} {i : Nat} (h : ¬ (a ≤ f i ∧ f i ≤ b)) : ac a b f i = 1 := if_pos h
theorem ac_order {a b : Int} {f : Nat → Int} {i : Nat} (h : a ≤ f i ∧ f i ≤ b) (h2 : 0 < i ∧ f i ≤ f (i - 1)) : ac a b f i = 13 := by rw [ac, if_neg (fun c => c h), if_pos h2]
theorem ac_fine {a b : Int} {f : Nat → Int} {i : Nat} (h : a ≤ f i ∧ f i ≤ b) (h2 : ¬ (0 < i ∧ f i ≤ f (i - 1))) : ac a b f i = 0 := by rw [ac, if_neg (fun c => c h), if_neg h2]
theorem pc_bad {f g : Nat → Int} {i : Nat} (h : ¬ ((1 ≤ f i ∧ f i ≤ 15) ∧ (1 ≤ g i ∧ g i ≤ 1000000))) : pc f g i = 1 := if_pos h
theorem pc_order {f g : Nat → Int} {i : Nat} (h : (1 ≤ f i ∧ f i ≤ 15) ∧ (1 ≤ g i ∧ g i ≤ 1000000)) (h2 : 0 < i ∧ f i ≤ f (i - 1)) : pc f g i = 13 := by rw [pc, if_neg (fun c => c h), if_pos h2]
theorem pc_fine {f g : Nat → Int} {i : Nat} (h : (1 ≤ f i ∧ f i ≤ 15) ∧ (1 ≤ g i ∧ g i ≤ 1000000)) (h2 : ¬ (0 < i ∧ f i ≤ f (i - 1))) : pc f g i = 0 := by rw [pc, if_neg (fun c => c h), if_neg h2]

theorem scan_one {c : Nat → Int} {e : Int} (h : ∀ i, c i = 0 ∨ c i = e) (k i : Nat) : scan c k i = 0 ∨ scan c k i = e := by
  induction k generalizing i with
  | zero => exact .inl rfl
  | succ k ih =>
    rw [scan]
    split
    · exact ih (i + 1)
    · rcases h i with h | h
      · contradiction
      · exact .inr h

/-- what is known of a valid treaty -/
theorem fine {t : Ty} (h : t.err = 0) : (1 ≤ t.id ∧ t.id ≤ 1048576) ∧ (1 ≤ t.kind ∧ t.kind ≤ 6) ∧ (0 ≤ t.pf ∧ t.pf < t.pt ∧ t.pt ≤ 876600) ∧ t.ferr = 0 ∧ t.nre ≤ 8 ∧ (∀ i, i < t.nre → 0 ≤ t.fre i ∧ t.fre i ≤ 2000000) := by
  have hz := firstErr_zero h
  have h1 := hz (if 1 ≤ t.id ∧ t.id ≤ 1048576 then 0 else 1) (by simp)
  have h2 := hz (if 1 ≤ t.kind ∧ t.kind ≤ 6 then 0 else 11) (by simp)
  have h3 := hz (if perP t.pf t.pt = true then 0 else 12) (by simp)
  have h4 := hz t.ferr (by simp)
  have h5 := hz (if 8 < t.nre then 4 else 0) (by simp)
  have h6 := hz (scan (rc t.fre) t.nre 0) (by simp)
  refine ⟨by split at h1 <;> first | assumption | omega, by split at h2 <;> first | assumption | omega, ?_, h4, by split at h5 <;> omega, fun i hi => ?_⟩
  · split at h3
    · rename_i h; unfold perP at h; exact of_decide_eq_true h
    · omega
  · have := scan_zero _ _ _ h6 i (by omega) (by omega)
    unfold rc at this
    split at this
    · omega
    · rename_i h; omega
theorem span {t : Ty} (h : t.ferr = 0) (i : Nat) (hi' : i < 11) : (lo t.kind i = 0 ∧ hi t.kind i = 0) ∧ t.val i = 0 ∨ lo t.kind i ≤ t.val i ∧ t.val i ≤ hi t.kind i := by
  have hz := firstErr_zero h
  have h1 := scan_zero _ _ _ (hz (scan (fc1 t.kind t.val) 11 0) (by simp)) i (by omega) (by omega)
  have h2 := scan_zero _ _ _ (hz (scan (fc2 t.kind t.val) 11 0) (by simp)) i (by omega) (by omega)
  unfold fc1 at h1
  unfold fc2 at h2
  by_cases c : lo t.kind i = 0 ∧ hi t.kind i = 0
  · refine .inl ⟨c, ?_⟩
    by_cases e : t.val i = 0
    · exact e
    · rw [if_pos ⟨c, e⟩] at h1; omega
  · refine .inr ?_
    by_cases e : lo t.kind i ≤ t.val i ∧ t.val i ≤ hi t.kind i
    · exact e
    · rw [if_pos ⟨c, e⟩] at h2; omega
end Ty
end Go.Proofs.Ytlmgfcgakdanaaa
