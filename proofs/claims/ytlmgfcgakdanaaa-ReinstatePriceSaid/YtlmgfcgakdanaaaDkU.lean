/- Treaties that are built step by step: what makes them valid; what is known of the world beside them. No walk. -/
import Derived.Test.YtlmgfcgakdanaaaRnMath
import Derived.Test.YtlmgfcgakdanaaaDkP
import Derived.Test.YtlmgfcgakdanaaaTyD
namespace Go.Proofs.Ytlmgfcgakdanaaa

/-- all but the fields of a kind -/
structure Ty.Ok (t : Ty) : Prop where
  id0 : 1 ≤ t.id
  id1 : t.id ≤ 1048576
  k0 : 1 ≤ t.kind
  k1 : t.kind ≤ 6
  per : 0 ≤ t.pf ∧ t.pf < t.pt ∧ t.pt ≤ 876600
  pe : Ty.asc 0 15 t.npe t.fpe = 0
  ar : Ty.asc 0 15 t.nar t.far = 0
  nre : t.nre ≤ 8
  re : ∀ i, i < t.nre → 0 ≤ t.fre i ∧ t.fre i ≤ 2000000
  nin : t.nin = 0
  pa : Ty.perr t.npa t.fpa t.gpa = 0
  prem : 0 ≤ t.prem ∧ t.prem ≤ 1073741824

theorem Ty.Ok.err {t : Ty} (h : t.Ok) (hf : t.ferr = 0) : t.err = 0 := by
  refine firstErr_fine fun a ha => ?_
  simp only [List.mem_cons, List.not_mem_nil, or_false] at ha
  rcases ha with rfl | rfl | rfl | rfl | rfl | rfl | rfl | rfl | rfl | rfl | rfl | rfl
  · exact if_pos ⟨h.id0, h.id1⟩
  · exact if_pos ⟨h.k0, h.k1⟩
  · refine if_pos ?_
    unfold Ty.perP
    rw [decide_eq_true_iff]
    exact h.per
  · exact h.pe
  · exact h.ar
  · exact hf
  · have := h.nre
    exact if_neg (by omega)
  · exact scan_fine _ _ _ fun j _ hj => if_neg (fun c => c (h.re j (by omega)))
  · have := h.nin
    exact if_neg (by omega)
  · rw [h.nin]; rfl
  · refine if_neg ?_
    unfold Ty.hasB
    rw [h.nin, decide_eq_true_iff]
    rintro ⟨i, hi, _⟩
    omega
  · exact h.pa

theorem Ty.ferr_fine {t : Ty} (hv : ∀ i, i < 11 → (Ty.lo t.kind i = 0 ∧ Ty.hi t.kind i = 0) ∧ t.val i = 0 ∨ ¬ (Ty.lo t.kind i = 0 ∧ Ty.hi t.kind i = 0) ∧ Ty.lo t.kind i ≤ t.val i ∧ t.val i ≤ Ty.hi t.kind i)
    (hr : 0 < t.nre → t.kind = 4 ∨ t.kind = 5) (ht : t.nre = 0 → t.timed = false) : t.ferr = 0 := by
  refine firstErr_fine fun a ha => ?_
  simp only [List.mem_cons, List.not_mem_nil, or_false] at ha
  rcases ha with rfl | rfl | rfl | rfl
  · refine scan_fine _ _ _ fun j _ hj => if_neg fun c => ?_
    rcases hv j (by omega) with h | h
    · exact c.2 h.2
    · exact h.1 c.1
  · exact if_neg fun c => by have := hr c.1; omega
  · exact if_neg fun c => by have := ht c.1; rw [this] at c; exact absurd c.2 (by decide)
  · refine scan_fine _ _ _ fun j _ hj => if_neg fun c => ?_
    rcases hv j (by omega) with h | h
    · exact c.1 h.1
    · exact c.2 h.2

/-- the fields of each kind, that are not 0 -/
def Ty.Fits (t : Ty) : Prop := ∀ i, i < 11 → (Ty.lo t.kind i = 0 ∧ Ty.hi t.kind i = 0) ∧ t.val i = 0 ∨ ¬ (Ty.lo t.kind i = 0 ∧ Ty.hi t.kind i = 0) ∧ Ty.lo t.kind i ≤ t.val i ∧ t.val i ≤ Ty.hi t.kind i
theorem Ty.fits_of {t : Ty} (P : t.kind = 1 ∧ t.risk = 0 ∧ (1 ≤ t.cess ∧ t.cess ≤ 1000000) ∧ t.line = 0 ∧ t.lines = 0 ∧ t.ret = 0 ∧ (0 ≤ t.lim ∧ t.lim ≤ 1073741824) ∧ t.win = 0 ∧ t.ded = 0 ∧ t.agg = 0 ∧ t.base = 0 ∧ (0 ≤ t.prem ∧ t.prem ≤ 1073741824) ∨
      t.kind = 2 ∧ t.risk = 0 ∧ t.cess = 0 ∧ (1 ≤ t.line ∧ t.line ≤ 1073741824) ∧ (1 ≤ t.lines ∧ t.lines ≤ 100) ∧ t.ret = 0 ∧ t.lim = 0 ∧ t.win = 0 ∧ t.ded = 0 ∧ t.agg = 0 ∧ t.base = 0 ∧ (0 ≤ t.prem ∧ t.prem ≤ 1073741824) ∨
      t.kind = 3 ∧ (1 ≤ t.risk ∧ t.risk ≤ 1048576) ∧ (1 ≤ t.cess ∧ t.cess ≤ 1000000) ∧ t.line = 0 ∧ t.lines = 0 ∧ t.ret = 0 ∧ t.lim = 0 ∧ t.win = 0 ∧ t.ded = 0 ∧ t.agg = 0 ∧ t.base = 0 ∧ (0 ≤ t.prem ∧ t.prem ≤ 1073741824) ∨
      t.kind = 4 ∧ t.risk = 0 ∧ t.cess = 0 ∧ t.line = 0 ∧ t.lines = 0 ∧ (0 ≤ t.ret ∧ t.ret ≤ 1073741824) ∧ (1 ≤ t.lim ∧ t.lim ≤ 1073741824) ∧ t.win = 0 ∧ (0 ≤ t.ded ∧ t.ded ≤ 1073741824) ∧ (0 ≤ t.agg ∧ t.agg ≤ 1073741824) ∧ (0 ≤ t.base ∧ t.base ≤ 1000000000) ∧ (0 ≤ t.prem ∧ t.prem ≤ 1073741824) ∨
      t.kind = 5 ∧ t.risk = 0 ∧ t.cess = 0 ∧ t.line = 0 ∧ t.lines = 0 ∧ (0 ≤ t.ret ∧ t.ret ≤ 1073741824) ∧ (1 ≤ t.lim ∧ t.lim ≤ 1073741824) ∧ (1 ≤ t.win ∧ t.win ≤ 8784) ∧ (0 ≤ t.ded ∧ t.ded ≤ 1073741824) ∧ (0 ≤ t.agg ∧ t.agg ≤ 1073741824) ∧ t.base = 0 ∧ (0 ≤ t.prem ∧ t.prem ≤ 1073741824) ∨
      t.kind = 6 ∧ t.risk = 0 ∧ t.cess = 0 ∧ t.line = 0 ∧ t.lines = 0 ∧ (0 ≤ t.ret ∧ t.ret ≤ 1073741824) ∧ (1 ≤ t.lim ∧ t.lim ≤ 1073741824) ∧ t.win = 0 ∧ t.ded = 0 ∧ t.agg = 0 ∧ t.base = 0 ∧ (0 ≤ t.prem ∧ t.prem ≤ 1073741824)) : t.Fits := by
  intro i hi
  have hk : i = 0 ∨ i = 1 ∨ i = 2 ∨ i = 3 ∨ i = 4 ∨ i = 5 ∨ i = 6 ∨ i = 7 ∨ i = 8 ∨ i = 9 ∨ i = 10 := by omega
  rcases P with P | P | P | P | P | P
  all_goals
    obtain ⟨k, p0, p1, p2, p3, p4, p5, p6, p7, p8, p9, p10⟩ := P
    rw [k]
    rcases hk with rfl | rfl | rfl | rfl | rfl | rfl | rfl | rfl | rfl | rfl | rfl
    all_goals
      simp [Ty.lo, Ty.hi, Ty.tab, Ty.val]
      assumption

/-- a treaty as it was begun: no field of a kind is set -/
structure Ty.Raw (id kind : Int) (t : Ty) : Prop where
  idE : t.id = id
  kindE : t.kind = kind
  ok : t.Ok
  risk : t.risk = 0
  cess : t.cess = 0
  line : t.line = 0
  lines : t.lines = 0
  ret : t.ret = 0
  lim : t.lim = 0
  win : t.win = 0
  ded : t.ded = 0
  agg : t.agg = 0
  base : t.base = 0
  timed : t.timed = false
  nre0 : t.nre = 0

/-- an excess treaty on its way -/
structure Ty.Exc (id kind : Int) (t : Ty) : Prop where
  idE : t.id = id
  kindE : t.kind = kind
  ok : t.Ok
  risk : t.risk = 0
  cess : t.cess = 0
  line : t.line = 0
  lines : t.lines = 0
  ret : 0 ≤ t.ret ∧ t.ret ≤ 1073741824
  lim : 1 ≤ t.lim ∧ t.lim ≤ 1073741824
  win : t.win = 0
  ded : 0 ≤ t.ded ∧ t.ded ≤ 1073741824
  agg : 0 ≤ t.agg ∧ t.agg ≤ 1073741824
  base : t.base = 0
  timed : t.timed = false

theorem Ty.Ok.of {t t' : Ty} (h : t.Ok) (h1 : t'.id = t.id ∧ t'.kind = t.kind ∧ t'.pf = t.pf ∧ t'.pt = t.pt ∧ t'.prem = t.prem) (h2 : t'.npe = t.npe ∧ t'.fpe = t.fpe ∧ t'.nar = t.nar ∧ t'.far = t.far ∧ t'.nre = t.nre ∧ t'.fre = t.fre ∧ t'.nin = t.nin ∧ t'.npa = t.npa ∧ t'.fpa = t.fpa ∧ t'.gpa = t.gpa) : t'.Ok := by
  obtain ⟨a1, a2, a3, a4, a5⟩ := h1
  obtain ⟨b1, b2, b3, b4, b5, b6, b7, b8, b9, b10⟩ := h2
  exact ⟨by rw [a1]; exact h.id0, by rw [a1]; exact h.id1, by rw [a2]; exact h.k0, by rw [a2]; exact h.k1, by rw [a3, a4]; exact h.per, by rw [b1, b2]; exact h.pe, by rw [b3, b4]; exact h.ar, by rw [b5]; exact h.nre, by rw [b5, b6]; exact h.re, by rw [b7]; exact h.nin, by rw [b8, b9, b10]; exact h.pa, by rw [a5]; exact h.prem⟩

section
variable {id kind : Int} {t : Ty}
theorem Ty.Raw.exc {x y : Int} (h : t.Raw id kind) (x0 : 0 ≤ x) (x1 : x ≤ 1073741824) (y0 : 1 ≤ y) (y1 : y ≤ 1073741824) : Ty.Exc id kind { t with ret := x, lim := y } :=
  ⟨h.idE, h.kindE, h.ok.of ⟨rfl, rfl, rfl, rfl, rfl⟩ ⟨rfl, rfl, rfl, rfl, rfl, rfl, rfl, rfl, rfl, rfl⟩, h.risk, h.cess, h.line, h.lines, ⟨x0, x1⟩, ⟨y0, y1⟩, h.win, by simp only [h.ded]; omega, by simp only [h.agg]; omega, h.base, h.timed⟩
theorem Ty.Exc.setDed {x : Int} (h : t.Exc id kind) (x0 : 0 ≤ x) (x1 : x ≤ 1073741824) : Ty.Exc id kind { t with ded := x } :=
  ⟨h.idE, h.kindE, h.ok.of ⟨rfl, rfl, rfl, rfl, rfl⟩ ⟨rfl, rfl, rfl, rfl, rfl, rfl, rfl, rfl, rfl, rfl⟩, h.risk, h.cess, h.line, h.lines, h.ret, h.lim, h.win, ⟨x0, x1⟩, h.agg, h.base, h.timed⟩
theorem Ty.Exc.setAgg {x : Int} (h : t.Exc id kind) (x0 : 0 ≤ x) (x1 : x ≤ 1073741824) : Ty.Exc id kind { t with agg := x } :=
  ⟨h.idE, h.kindE, h.ok.of ⟨rfl, rfl, rfl, rfl, rfl⟩ ⟨rfl, rfl, rfl, rfl, rfl, rfl, rfl, rfl, rfl, rfl⟩, h.risk, h.cess, h.line, h.lines, h.ret, h.lim, h.win, h.ded, ⟨x0, x1⟩, h.base, h.timed⟩
theorem Ty.Exc.push {x : Int} {A : Option Addr} {c : Nat} (h : t.Exc id kind) (hn : t.nre < 8) (x0 : 0 ≤ x) (x1 : x ≤ 2000000) :
    Ty.Exc id kind { t with Are := A, nre := t.nre + 1, cre := c, fre := fun i => if i < t.nre then t.fre i else x } :=
  ⟨h.idE, h.kindE, ⟨h.ok.id0, h.ok.id1, h.ok.k0, h.ok.k1, h.ok.per, h.ok.pe, h.ok.ar, hn, (fun i hi => by
    by_cases e : i < t.nre
    · simp only [if_pos e]; exact h.ok.re i e
    · simp only [if_neg e]; omega), h.ok.nin, h.ok.pa, h.ok.prem⟩, h.risk, h.cess, h.line, h.lines, h.ret, h.lim, h.win, h.ded, h.agg, h.base, h.timed⟩

/-- valid at the end -/
def Ty.Good (id kind : Int) (t : Ty) : Prop := t.id = id ∧ t.kind = kind ∧ t.err = 0
theorem Ty.Raw.good1 {x y : Int} (h : t.Raw id 1) (x0 : 1 ≤ x) (x1 : x ≤ 1000000) (y0 : 0 ≤ y) (y1 : y ≤ 1073741824) : Ty.Good id 1 { t with cess := x, lim := y } :=
  ⟨h.idE, h.kindE, Ty.Ok.err (h.ok.of ⟨rfl, rfl, rfl, rfl, rfl⟩ ⟨rfl, rfl, rfl, rfl, rfl, rfl, rfl, rfl, rfl, rfl⟩) (Ty.ferr_fine (Ty.fits_of (.inl ⟨h.kindE, h.risk, ⟨x0, x1⟩, h.line, h.lines, h.ret, ⟨y0, y1⟩, h.win, h.ded, h.agg, h.base, h.ok.prem⟩)) (fun c => by have := h.nre0; simp only at c; omega) (fun _ => h.timed))⟩
theorem Ty.Raw.good2 {x y : Int} (h : t.Raw id 2) (x0 : 1 ≤ x) (x1 : x ≤ 1073741824) (y0 : 1 ≤ y) (y1 : y ≤ 100) : Ty.Good id 2 { t with line := x, lines := y } :=
  ⟨h.idE, h.kindE, Ty.Ok.err (h.ok.of ⟨rfl, rfl, rfl, rfl, rfl⟩ ⟨rfl, rfl, rfl, rfl, rfl, rfl, rfl, rfl, rfl, rfl⟩) (Ty.ferr_fine (Ty.fits_of (.inr (.inl ⟨h.kindE, h.risk, h.cess, ⟨x0, x1⟩, ⟨y0, y1⟩, h.ret, h.lim, h.win, h.ded, h.agg, h.base, h.ok.prem⟩))) (fun c => by have := h.nre0; simp only at c; omega) (fun _ => h.timed))⟩
theorem Ty.Raw.good3 {x y : Int} (h : t.Raw id 3) (x0 : 1 ≤ x) (x1 : x ≤ 1048576) (y0 : 1 ≤ y) (y1 : y ≤ 1000000) : Ty.Good id 3 { t with risk := x, cess := y } :=
  ⟨h.idE, h.kindE, Ty.Ok.err (h.ok.of ⟨rfl, rfl, rfl, rfl, rfl⟩ ⟨rfl, rfl, rfl, rfl, rfl, rfl, rfl, rfl, rfl, rfl⟩) (Ty.ferr_fine (Ty.fits_of (.inr (.inr (.inl ⟨h.kindE, ⟨x0, x1⟩, ⟨y0, y1⟩, h.line, h.lines, h.ret, h.lim, h.win, h.ded, h.agg, h.base, h.ok.prem⟩)))) (fun c => by have := h.nre0; simp only at c; omega) (fun _ => h.timed))⟩
theorem Ty.Exc.good4 {x : Int} {z : Bool} (h : t.Exc id 4) (hz : t.nre = 0 → z = false) (x0 : 0 ≤ x) (x1 : x ≤ 1000000000) : Ty.Good id 4 { t with timed := z, base := x } :=
  ⟨h.idE, h.kindE, Ty.Ok.err (h.ok.of ⟨rfl, rfl, rfl, rfl, rfl⟩ ⟨rfl, rfl, rfl, rfl, rfl, rfl, rfl, rfl, rfl, rfl⟩) (Ty.ferr_fine (Ty.fits_of (.inr (.inr (.inr (.inl ⟨h.kindE, h.risk, h.cess, h.line, h.lines, h.ret, h.lim, h.win, h.ded, h.agg, ⟨x0, x1⟩, h.ok.prem⟩))))) (fun _ => .inl h.kindE) hz)⟩
theorem Ty.Exc.good5 {x : Int} {z : Bool} (h : t.Exc id 5) (hz : t.nre = 0 → z = false) (x0 : 1 ≤ x) (x1 : x ≤ 8784) : Ty.Good id 5 { t with timed := z, win := x } :=
  ⟨h.idE, h.kindE, Ty.Ok.err (h.ok.of ⟨rfl, rfl, rfl, rfl, rfl⟩ ⟨rfl, rfl, rfl, rfl, rfl, rfl, rfl, rfl, rfl, rfl⟩) (Ty.ferr_fine (Ty.fits_of (.inr (.inr (.inr (.inr (.inl ⟨h.kindE, h.risk, h.cess, h.line, h.lines, h.ret, h.lim, ⟨x0, x1⟩, h.ded, h.agg, h.base, h.ok.prem⟩)))))) (fun _ => .inr h.kindE) hz)⟩
theorem Ty.Raw.good6 {x y : Int} (h : t.Raw id 6) (x0 : 0 ≤ x) (x1 : x ≤ 1073741824) (y0 : 1 ≤ y) (y1 : y ≤ 1073741824) : Ty.Good id 6 { t with ret := x, lim := y } :=
  ⟨h.idE, h.kindE, Ty.Ok.err (h.ok.of ⟨rfl, rfl, rfl, rfl, rfl⟩ ⟨rfl, rfl, rfl, rfl, rfl, rfl, rfl, rfl, rfl, rfl⟩) (Ty.ferr_fine (Ty.fits_of (.inr (.inr (.inr (.inr (.inr ⟨h.kindE, h.risk, h.cess, h.line, h.lines, ⟨x0, x1⟩, ⟨y0, y1⟩, h.win, h.ded, h.agg, h.base, h.ok.prem⟩)))))) (fun c => by have := h.nre0; simp only at c; omega) (fun _ => h.timed))⟩
end
end Go.Proofs.Ytlmgfcgakdanaaa

namespace Go.Proofs.Ytlmgfcgakdanaaa
open Go.RowKit
set_option linter.unusedVariables false

/-- no list of a treaty lies in block b -/
def Ty.Off (t : Ty) (b : Nat) : Prop := (∀ ad, t.Ape = some ad → ad.block ≠ b) ∧ (∀ ad, t.Aar = some ad → ad.block ≠ b) ∧ (∀ ad, t.Are = some ad → ad.block ≠ b) ∧ (∀ ad, t.Ain = some ad → ad.block ≠ b) ∧ (∀ ad, t.Apa = some ad → ad.block ≠ b)
theorem Ty.In.keeps_ne {t : Ty} {b : Nat} {w w' : World} (h : t.In w w.heap.size) (hk : Keeps b w w') (ho : t.Off b) : t.In w' w'.heap.size :=
  ⟨Cells.keeps_ne h.pe hk ho.1, Cells.keeps_ne h.ar hk ho.2.1, Cells.keeps_ne h.re hk ho.2.2.1, Cells.keeps_ne h.inu hk ho.2.2.2.1, Cells.keeps_ne h.pa hk ho.2.2.2.2, h.lpe, h.lar, h.lre, h.lin, h.lpa⟩

/-- the lists of a treaty lie at or above block B -/
def Ty.Over (t : Ty) (B : Nat) : Prop := (∀ ad, t.Ape = some ad → B ≤ ad.block) ∧ (∀ ad, t.Aar = some ad → B ≤ ad.block) ∧ (∀ ad, t.Are = some ad → B ≤ ad.block) ∧ (∀ ad, t.Ain = some ad → B ≤ ad.block) ∧ (∀ ad, t.Apa = some ad → B ≤ ad.block)
theorem Ty.Over.off {t : Ty} {B b : Nat} (h : t.Over B) (hb : b < B) : t.Off b :=
  ⟨fun ad e => by have := h.1 ad e; omega, fun ad e => by have := h.2.1 ad e; omega, fun ad e => by have := h.2.2.1 ad e; omega, fun ad e => by have := h.2.2.2.1 ad e; omega, fun ad e => by have := h.2.2.2.2 ad e; omega⟩
theorem Ty.Over.mono {t : Ty} {B B' : Nat} (h : t.Over B) (hb : B' ≤ B) : t.Over B' :=
  ⟨fun ad e => Nat.le_trans hb (h.1 ad e), fun ad e => Nat.le_trans hb (h.2.1 ad e), fun ad e => Nat.le_trans hb (h.2.2.1 ad e), fun ad e => Nat.le_trans hb (h.2.2.2.1 ad e), fun ad e => Nat.le_trans hb (h.2.2.2.2 ad e)⟩
/-- lists that lie below block B and above the blocks b and R -/
def Cells.At (w : World) (B b R : Nat) (A : Option Addr) (n : Nat) (f : Nat → Value) : Prop := Cells w B A n f ∧ ∀ ad, A = some ad → b < ad.block ∧ R < ad.block
theorem Cells.At.step {w w' : World} {B b R : Nat} {A : Option Addr} {n : Nat} {f : Nat → Value} (h : Cells.At w B b R A n f) (hk : Keeps b w w') : Cells.At w' B b R A n f :=
  ⟨fun hn => by
    obtain ⟨ad, e, hlt, hc⟩ := h.1 hn
    exact ⟨ad, e, hlt, fun j hj => by
      have h1 := hc j hj
      have h2 := cell_lt h1
      rw [add_block] at h2
      exact (World.cell?_of_block (w := w) (hk.block _ (by rw [add_block]; exact h2) (by rw [add_block]; have := (h.2 ad e).1; omega))).trans h1⟩, h.2⟩
theorem Cells.At.below {w w' : World} {B b R : Nat} {A : Option Addr} {n : Nat} {f : Nat → Value} (h : Cells.At w B b R A n f) (hb : Below B w w') : Cells.At w' B b R A n f := ⟨h.1.below hb, h.2⟩

/-- the treaty t is being built in block H; block R waits for the result; block b is the deck -/
structure DSt (b R H : Nat) (w : World) (t : Ty) (wr : World) : Prop where
  box : t.Box wr H
  res : ∃ cs : Array Value, cs.size = 21 ∧ Has wr R cs 27
  pe : Cells.At wr H b R t.Ape t.npe fun j => .int .i64 (t.fpe j)
  ar : Cells.At wr H b R t.Aar t.nar fun j => .int .i64 (t.far j)
  pa : Cells.At wr H b R t.Apa (t.npa * 2) (pairAt t.fpa t.gpa)
  re : wr.ownsRow (H + 1) 3 1 (.slice t.Are t.nre t.cre) t.nre (numsL t.nre t.fre)
  ain : t.Ain = none ∧ t.nin = 0
  npe : t.npe ≤ 3
  nar : t.nar ≤ 3
  npa : t.npa ≤ 4
  nre : t.nre ≤ 8
  keeps : Keeps b w wr
  deck : IsDeck wr b
  bw : b < w.heap.size
  wR : w.heap.size ≤ R
  RH : R < H

section
variable {b R H : Nat} {w wr w' : World} {t t' : Ty}
/-- a call of the deck's -/
theorem DSt.call (h : DSt b R H w t wr) (hk : Keeps b wr w') (hd : IsDeck w' b) : DSt b R H w t w' :=
  ⟨h.box.keeps hk (by have := h.bw; have := h.wR; have := h.RH; omega),
    (by obtain ⟨cs, h1, h2⟩ := h.res; exact ⟨cs, h1, h2.keeps hk (by have := h.bw; have := h.wR; omega)⟩),
    h.pe.step hk, h.ar.step hk, h.pa.step hk, own_keeps h.re hk (by have := h.bw; have := h.wR; have := h.RH; omega), h.ain, h.npe, h.nar, h.npa, h.nre, h.keeps.trans hk, hd, h.bw, h.wR, h.RH⟩
/-- a store to a number of the treaty -/
theorem DSt.store (h : DSt b R H w t wr) (k : Nat) (u : Value) (hb : t'.cells = t.cells.setIfInBounds k u)
    (h1 : t'.Ape = t.Ape ∧ t'.npe = t.npe ∧ t'.fpe = t.fpe) (h2 : t'.Aar = t.Aar ∧ t'.nar = t.nar ∧ t'.far = t.far) (h3 : t'.Apa = t.Apa ∧ t'.npa = t.npa ∧ t'.fpa = t.fpa ∧ t'.gpa = t.gpa)
    (h4 : t'.Are = t.Are ∧ t'.nre = t.nre ∧ t'.cre = t.cre ∧ t'.fre = t.fre) (h5 : t'.Ain = t.Ain ∧ t'.nin = t.nin) : DSt b R H w t' (wr.setCell ⟨H, k, none⟩ u) := by
  have hH : b < H := by have := h.bw; have := h.wR; have := h.RH; omega
  have hbl : Below H wr (wr.setCell ⟨H, k, none⟩ u) := (Below.refl _ _).setCell (p := ⟨H, k, none⟩) (Nat.le_refl H) u
  obtain ⟨a1, a2, a3⟩ := h1
  obtain ⟨b1, b2, b3⟩ := h2
  obtain ⟨c1, c2, c3, c4⟩ := h3
  obtain ⟨d1, d2, d3, d4⟩ := h4
  obtain ⟨e1, e2⟩ := h5
  refine ⟨?_, ?_, ?_, ?_, ?_, ?_, ?_, ?_, ?_, ?_, ?_, ?_, ?_, h.bw, h.wR, h.RH⟩
  · unfold Ty.Box
    rw [hb]
    exact h.box.put k u
  · obtain ⟨cs, h1, h2⟩ := h.res
    exact ⟨cs, h1, h2.far (by have := h.RH; simp only; omega) u⟩
  · rw [a1, a2, a3]; exact h.pe.below hbl
  · rw [b1, b2, b3]; exact h.ar.below hbl
  · rw [c1, c2, c3, c4]; exact h.pa.below hbl
  · rw [d1, d2, d3, d4]; exact own_keeps h.re (b := H) ((Keeps.refl H wr).put k u) (by omega)
  · rw [e1, e2]; exact h.ain
  · rw [a2]; exact h.npe
  · rw [b2]; exact h.nar
  · rw [c2]; exact h.npa
  · rw [d2]; exact h.nre
  · exact h.keeps.far (by have := h.wR; have := h.RH; simp only; omega) u
  · exact h.deck.far (by simp only; omega) u
theorem DSt.risk (h : DSt b R H w t wr) (v : Int) : DSt b R H w { t with risk := v } (wr.setCell ⟨H, 6, none⟩ (.int .i64 v)) := h.store 6 _ rfl ⟨rfl, rfl, rfl⟩ ⟨rfl, rfl, rfl⟩ ⟨rfl, rfl, rfl, rfl⟩ ⟨rfl, rfl, rfl, rfl⟩ ⟨rfl, rfl⟩
theorem DSt.cess (h : DSt b R H w t wr) (v : Int) : DSt b R H w { t with cess := v } (wr.setCell ⟨H, 7, none⟩ (.int .i64 v)) := h.store 7 _ rfl ⟨rfl, rfl, rfl⟩ ⟨rfl, rfl, rfl⟩ ⟨rfl, rfl, rfl, rfl⟩ ⟨rfl, rfl, rfl, rfl⟩ ⟨rfl, rfl⟩
theorem DSt.line (h : DSt b R H w t wr) (v : Int) : DSt b R H w { t with line := v } (wr.setCell ⟨H, 8, none⟩ (.int .i64 v)) := h.store 8 _ rfl ⟨rfl, rfl, rfl⟩ ⟨rfl, rfl, rfl⟩ ⟨rfl, rfl, rfl, rfl⟩ ⟨rfl, rfl, rfl, rfl⟩ ⟨rfl, rfl⟩
theorem DSt.lines (h : DSt b R H w t wr) (v : Int) : DSt b R H w { t with lines := v } (wr.setCell ⟨H, 9, none⟩ (.int .i64 v)) := h.store 9 _ rfl ⟨rfl, rfl, rfl⟩ ⟨rfl, rfl, rfl⟩ ⟨rfl, rfl, rfl, rfl⟩ ⟨rfl, rfl, rfl, rfl⟩ ⟨rfl, rfl⟩
theorem DSt.ret (h : DSt b R H w t wr) (v : Int) : DSt b R H w { t with ret := v } (wr.setCell ⟨H, 10, none⟩ (.int .i64 v)) := h.store 10 _ rfl ⟨rfl, rfl, rfl⟩ ⟨rfl, rfl, rfl⟩ ⟨rfl, rfl, rfl, rfl⟩ ⟨rfl, rfl, rfl, rfl⟩ ⟨rfl, rfl⟩
theorem DSt.lim (h : DSt b R H w t wr) (v : Int) : DSt b R H w { t with lim := v } (wr.setCell ⟨H, 11, none⟩ (.int .i64 v)) := h.store 11 _ rfl ⟨rfl, rfl, rfl⟩ ⟨rfl, rfl, rfl⟩ ⟨rfl, rfl, rfl, rfl⟩ ⟨rfl, rfl, rfl, rfl⟩ ⟨rfl, rfl⟩
theorem DSt.win (h : DSt b R H w t wr) (v : Int) : DSt b R H w { t with win := v } (wr.setCell ⟨H, 12, none⟩ (.int .i64 v)) := h.store 12 _ rfl ⟨rfl, rfl, rfl⟩ ⟨rfl, rfl, rfl⟩ ⟨rfl, rfl, rfl, rfl⟩ ⟨rfl, rfl, rfl, rfl⟩ ⟨rfl, rfl⟩
theorem DSt.ded (h : DSt b R H w t wr) (v : Int) : DSt b R H w { t with ded := v } (wr.setCell ⟨H, 13, none⟩ (.int .i64 v)) := h.store 13 _ rfl ⟨rfl, rfl, rfl⟩ ⟨rfl, rfl, rfl⟩ ⟨rfl, rfl, rfl, rfl⟩ ⟨rfl, rfl, rfl, rfl⟩ ⟨rfl, rfl⟩
theorem DSt.agg (h : DSt b R H w t wr) (v : Int) : DSt b R H w { t with agg := v } (wr.setCell ⟨H, 14, none⟩ (.int .i64 v)) := h.store 14 _ rfl ⟨rfl, rfl, rfl⟩ ⟨rfl, rfl, rfl⟩ ⟨rfl, rfl, rfl, rfl⟩ ⟨rfl, rfl, rfl, rfl⟩ ⟨rfl, rfl⟩
theorem DSt.base (h : DSt b R H w t wr) (v : Int) : DSt b R H w { t with base := v } (wr.setCell ⟨H, 18, none⟩ (.int .i64 v)) := h.store 18 _ rfl ⟨rfl, rfl, rfl⟩ ⟨rfl, rfl, rfl⟩ ⟨rfl, rfl, rfl, rfl⟩ ⟨rfl, rfl, rfl, rfl⟩ ⟨rfl, rfl⟩
theorem DSt.timed (h : DSt b R H w t wr) (v : Bool) : DSt b R H w { t with timed := v } (wr.setCell ⟨H, 17, none⟩ (.bool v)) := h.store 17 _ rfl ⟨rfl, rfl, rfl⟩ ⟨rfl, rfl, rfl⟩ ⟨rfl, rfl, rfl, rfl⟩ ⟨rfl, rfl, rfl, rfl⟩ ⟨rfl, rfl⟩
theorem DSt.drew (h : DSt b R H w t wr) : DSt b R H w t wr.drew :=
  ⟨h.box, h.res, h.pe, h.ar, h.pa, h.re, h.ain, h.npe, h.nar, h.npa, h.nre, h.keeps.drewN 1, h.deck.drewN 1, h.bw, h.wR, h.RH⟩
theorem DSt.drewN (h : DSt b R H w t wr) (n : Nat) : DSt b R H w t (wr.drewN n) :=
  ⟨h.box, h.res, h.pe, h.ar, h.pa, h.re, h.ain, h.npe, h.nar, h.npa, h.nre, h.keeps.drewN n, h.deck.drewN n, h.bw, h.wR, h.RH⟩
theorem DSt.alloc (h : DSt b R H w t wr) (o : Obj) : DSt b R H w t (wr.alloc o) :=
  h.call (Keeps.of_below ((Below.refl _ _).alloc (Nat.le_refl _) o) b) (h.deck.alloc o)
/-- the reinstatements after an append -/
theorem DSt.append (h : DSt b R H w t wr) {x : Int} {g cap : Nat} (hn : t.nre < 8) (hown : w'.ownsRow (H + 1) 3 1 (.slice (some ⟨g, 0, none⟩) (t.nre + 1) cap) (t.nre + 1) (numsL t.nre t.fre ++ [.int .i64 x]))
    (hgrow : wr.grownBy w' (Value.ownBlock (.slice t.Are t.nre t.cre))) :
    DSt b R H w { t with Are := some ⟨g, 0, none⟩, nre := t.nre + 1, cre := cap, fre := fun i => if i < t.nre then t.fre i else x } (w'.setCell ⟨H, 16, none⟩ (.slice (some ⟨g, 0, none⟩) (t.nre + 1) cap)) := by
  have hH : b < H := by have := h.bw; have := h.wR; have := h.RH; omega
  have hlt : H < wr.heap.size := h.box.lt
  have hkr : Keeps b w w' := h.keeps.grown hgrow fun q hq => by have := (own_lt h.re hq).2; have := h.wR; have := h.RH; omega
  have hbl : Below (H + 1) wr w' := (Below.refl (H + 1) _).grown hgrow (by omega) (fun q hq => (own_lt h.re hq).2)
  have hb2 : Below H wr (w'.setCell ⟨H, 16, none⟩ (.slice (some ⟨g, 0, none⟩) (t.nre + 1) cap)) := (hbl.mono (by omega)).setCell (p := ⟨H, 16, none⟩) (Nat.le_refl H) _
  refine ⟨?_, ?_, h.pe.below hb2, h.ar.below hb2, h.pa.below hb2, ?_, h.ain, h.npe, h.nar, h.npa, hn, ?_, ?_, h.bw, h.wR, h.RH⟩
  · exact (h.box.below hbl (by omega)).put 16 _
  · obtain ⟨cs, h1, h2⟩ := h.res
    exact ⟨cs, h1, (h2.below hbl (by have := h.RH; omega)).far (by have := h.RH; simp only; omega) _⟩
  · rw [numsL_snoc] at hown
    exact own_keeps hown (b := H) ((Keeps.refl H w').put 16 _) (by omega)
  · exact hkr.far (by have := h.wR; have := h.RH; simp only; omega) _
  · exact (h.deck.below hbl (by omega)).far (by simp only; omega) _
theorem DSt.append' (h : DSt b R H w t wr) {x : Int} {g cap n : Nat} (hN : t.nre = n) (hn : n < 8) (hown : w'.ownsRow (H + 1) 3 1 (.slice (some ⟨g, 0, none⟩) (n + 1) cap) (n + 1) (numsL n t.fre ++ [.int .i64 x]))
    (hgrow : wr.grownBy w' (Value.ownBlock (.slice t.Are t.nre t.cre))) :
    DSt b R H w { t with Are := some ⟨g, 0, none⟩, nre := t.nre + 1, cre := cap, fre := fun i => if i < t.nre then t.fre i else x } (w'.setCell ⟨H, 16, none⟩ (.slice (some ⟨g, 0, none⟩) (n + 1) cap)) := by
  subst hN
  exact h.append hn hown hgrow
theorem DSt.after (h : DSt b R H w t wr) (hgrow : wr.grownBy w' (Value.ownBlock (.slice t.Are t.nre t.cre))) : t.Box w' H :=
  h.box.below ((Below.refl (H + 1) _).grown hgrow (by have := h.box.lt; omega) (fun q hq => (own_lt h.re hq).2)) (by omega)
/-- the end: the result has been written, and the treaty stands by itself -/
theorem DSt.done (h : DSt b R H w t wr) (hl : Leaves (fun k => k = R) wr w') : t.In w' w'.heap.size ∧ t.Over w.heap.size ∧ Keeps b w w' ∧ IsDeck w' b := by
  have hHs : H ≤ wr.heap.size := Nat.le_of_lt h.box.lt
  have h1 := h.bw; have h2 := h.wR; have h3 := h.RH
  obtain ⟨A, c, e, hn, hA⟩ := own_slice h.re
  injection e with e1 e2 e3
  rw [← e1] at hn hA
  have hb : Below R wr w' := hl.below (fun k hk => by omega) (by omega)
  refine ⟨⟨Cells.leaves (h.pe.1.mono hHs) hl fun ad e => by have := (h.pe.2 ad e).2; omega, Cells.leaves (h.ar.1.mono hHs) hl fun ad e => by have := (h.ar.2 ad e).2; omega, Cells.leaves hn hl fun ad e => by have := hA ad e; omega, ?_, Cells.leaves (h.pa.1.mono hHs) hl fun ad e => by have := (h.pa.2 ad e).2; omega, ?_, ?_, ?_, ?_, ?_⟩,
    ⟨fun ad e => by have := (h.pe.2 ad e).2; omega, fun ad e => by have := (h.ar.2 ad e).2; omega, fun ad e => ?_, fun ad e => ?_, fun ad e => by have := (h.pa.2 ad e).2; omega⟩, ?_, h.deck.below hb (by omega)⟩
  · rw [h.ain.2]
    intro hh
    omega
  · have := h.npe; omega
  · have := h.nar; omega
  · have := h.nre; omega
  · have := h.ain.2; omega
  · have := h.npa; omega
  · have := hA ad e
    omega
  · rw [h.ain.1] at e; cases e
  · have hk := h.keeps
    exact ⟨hb.os.trans hk.os, hb.tape.trans hk.tape, hb.output.trans hk.output, Nat.le_trans hk.size hl.size, fun k h0 hn => (hb.block k (by omega)).trans (hk.block k h0 hn)⟩
end
end Go.Proofs.Ytlmgfcgakdanaaa

namespace Go.Proofs.Ytlmgfcgakdanaaa
open Go.RowKit
set_option linter.unusedVariables false

theorem Ty.In.leaves {t : Ty} {w w' : World} {S : Nat → Prop} (h : t.In w w.heap.size) (hl : Leaves S w w') (hA : ∀ k, S k → (∀ ad, t.Ape = some ad → ad.block ≠ k) ∧ (∀ ad, t.Aar = some ad → ad.block ≠ k) ∧ (∀ ad, t.Are = some ad → ad.block ≠ k) ∧ (∀ ad, t.Ain = some ad → ad.block ≠ k) ∧ (∀ ad, t.Apa = some ad → ad.block ≠ k)) : t.In w' w'.heap.size :=
  ⟨Cells.leaves h.pe hl fun ad e c => (hA _ c).1 ad e rfl, Cells.leaves h.ar hl fun ad e c => (hA _ c).2.1 ad e rfl, Cells.leaves h.re hl fun ad e c => (hA _ c).2.2.1 ad e rfl, Cells.leaves h.inu hl fun ad e c => (hA _ c).2.2.2.1 ad e rfl, Cells.leaves h.pa hl fun ad e c => (hA _ c).2.2.2.2 ad e rfl, h.lpe, h.lar, h.lre, h.lin, h.lpa⟩

theorem Ty.In.step {t : Ty} {w w' : World} {B b : Nat} (h : t.In w B) (hk : Keeps b w w') (ho : t.Over (b + 1)) : t.In w' B :=
  ⟨(Cells.At.step (R := b) ⟨h.pe, fun ad e => ⟨ho.1 ad e, ho.1 ad e⟩⟩ hk).1, (Cells.At.step (R := b) ⟨h.ar, fun ad e => ⟨ho.2.1 ad e, ho.2.1 ad e⟩⟩ hk).1, (Cells.At.step (R := b) ⟨h.re, fun ad e => ⟨ho.2.2.1 ad e, ho.2.2.1 ad e⟩⟩ hk).1,
    (Cells.At.step (R := b) ⟨h.inu, fun ad e => ⟨ho.2.2.2.1 ad e, ho.2.2.2.1 ad e⟩⟩ hk).1, (Cells.At.step (R := b) ⟨h.pa, fun ad e => ⟨ho.2.2.2.2 ad e, ho.2.2.2.2 ad e⟩⟩ hk).1, h.lpe, h.lar, h.lre, h.lin, h.lpa⟩

/-- a treaty in block H that may still change; block G waits for the result; block b is the deck -/
structure XSt (b G H : Nat) (w : World) (t : Ty) (W : World) : Prop where
  box : t.Box W H
  ins : t.In W H
  over : t.Over (G + 1)
  res : ∃ cs : Array Value, cs.size = 21 ∧ Has W G cs 27
  keeps : Keeps b w W
  deck : IsDeck W b
  bw : b < w.heap.size
  wG : w.heap.size ≤ G
  GH : G < H
theorem XSt.call {b G H : Nat} {w W W' : World} {t : Ty} (h : XSt b G H w t W) (hk : Keeps b W W') (hd : IsDeck W' b) : XSt b G H w t W' := by
  have h1 := h.bw; have h2 := h.wG; have h3 := h.GH
  refine ⟨h.box.keeps hk (by omega), h.ins.step hk (h.over.mono (by omega)), h.over, ?_, h.keeps.trans hk, hd, h1, h2, h3⟩
  obtain ⟨cs, c1, c2⟩ := h.res
  exact ⟨cs, c1, c2.keeps hk (by omega)⟩
theorem XSt.set {b G H : Nat} {w W : World} {t : Ty} (h : XSt b G H w t W) (x y : Int) : XSt b G H w { t with ret := x, lim := y } ((W.setCell ⟨H, 10, none⟩ (.int .i64 x)).setCell ⟨H, 11, none⟩ (.int .i64 y)) := by
  have h1 := h.bw; have h2 := h.wG; have h3 := h.GH
  have hbl : Below H W ((W.setCell ⟨H, 10, none⟩ (.int .i64 x)).setCell ⟨H, 11, none⟩ (.int .i64 y)) := ((Below.refl _ _).setCell (p := ⟨H, 10, none⟩) (Nat.le_refl H) _).setCell (p := ⟨H, 11, none⟩) (Nat.le_refl H) _
  have hi := h.ins.below hbl
  refine ⟨(h.box.put 10 _).put 11 _, ⟨hi.pe, hi.ar, hi.re, hi.inu, hi.pa, hi.lpe, hi.lar, hi.lre, hi.lin, hi.lpa⟩, h.over, ?_, (h.keeps.far (by simp only; omega) _).far (by simp only; omega) _, h.deck.below hbl (by omega), h1, h2, h3⟩
  obtain ⟨cs, c1, c2⟩ := h.res
  exact ⟨cs, c1, c2.below hbl h3⟩
theorem XSt.done {b G H : Nat} {w W W' : World} {t : Ty} (h : XSt b G H w t W) (hl : Leaves (fun k => k = G) W W') : t.In W' W'.heap.size ∧ t.Over w.heap.size ∧ Keeps b w W' ∧ IsDeck W' b := by
  have h1 := h.bw; have h2 := h.wG; have h3 := h.GH
  have hH := h.box.lt
  have hb : Below G W W' := hl.below (fun k hk => by omega) (by omega)
  refine ⟨(h.ins.mono (Nat.le_of_lt hH)).leaves hl fun k hk => ⟨fun ad e => ?_, fun ad e => ?_, fun ad e => ?_, fun ad e => ?_, fun ad e => ?_⟩, h.over.mono (by omega), ?_, h.deck.below hb (by omega)⟩
  · have := h.over.1 ad e; omega
  · have := h.over.2.1 ad e; omega
  · have := h.over.2.2.1 ad e; omega
  · have := h.over.2.2.2.1 ad e; omega
  · have := h.over.2.2.2.2 ad e; omega
  · have hk := h.keeps
    exact ⟨hb.os.trans hk.os, hb.tape.trans hk.tape, hb.output.trans hk.output, Nat.le_trans hk.size hl.size, fun k h0 hn => (hb.block k (by omega)).trans (hk.block k h0 hn)⟩
end Go.Proofs.Ytlmgfcgakdanaaa
