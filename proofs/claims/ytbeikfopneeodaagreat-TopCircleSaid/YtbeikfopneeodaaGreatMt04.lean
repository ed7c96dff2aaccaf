/- Treaties in plain words: the fields, and the first fault. No program in sight. excess.Layer and the reference's: what a loss exceeds a retention by, at most a limit. Parts of contract.Validate and of the reference's: ranges, periods, ascending lists, participations. -/
import Derived.Test.YtbeikfopneeodaaGreatMt03
import Derived.Test.YtbeikfopneeodaaGreatMt02
import Derived.Test.YtbeikfopneeodaaGreatMt01
import Derived.Test.YtbeikfopneeodaaGreatProg
import Derived.Lib.Hide
import Derived.Outline
import Derived.Deep.QuietTactic
import Derived.BigQuiet
namespace Go.Proofs.YtbeikfopneeodaaGreat
open Go.RowKit

/-- a treaty: the numbers, and its five lists (address, length, capacity, elements) -/
structure Ty where
  id : Int
  kind : Int
  pf : Int
  pt : Int
  risk : Int
  cess : Int
  line : Int
  lines : Int
  ret : Int
  lim : Int
  win : Int
  ded : Int
  agg : Int
  prem : Int
  timed : Bool
  base : Int
  Ape : Option Addr
  npe : Nat
  cpe : Nat
  fpe : Nat → Int
  Aar : Option Addr
  nar : Nat
  car : Nat
  far : Nat → Int
  Are : Option Addr
  nre : Nat
  cre : Nat
  fre : Nat → Int
  Ain : Option Addr
  nin : Nat
  cin : Nat
  fin : Nat → Int
  Apa : Option Addr
  npa : Nat
  cpa : Nat
  fpa : Nat → Int
  gpa : Nat → Int

/-- the cells of a treaty -/
abbrev Ty.cells (t : Ty) : Array Value :=
  #[.int .i64 t.id, .int .i64 t.kind, .int .i64 t.pf, .int .i64 t.pt, .slice t.Ape t.npe t.cpe, .slice t.Aar t.nar t.car, .int .i64 t.risk, .int .i64 t.cess, .int .i64 t.line, .int .i64 t.lines,
    .int .i64 t.ret, .int .i64 t.lim, .int .i64 t.win, .int .i64 t.ded, .int .i64 t.agg, .int .i64 t.prem, .slice t.Are t.nre t.cre, .bool t.timed, .int .i64 t.base, .slice t.Ain t.nin t.cin, .slice t.Apa t.npa t.cpa]

/-- the lists of a treaty lie below block B -/
structure Ty.In (t : Ty) (w : World) (B : Nat) : Prop where
  pe : Nums w B t.Ape t.npe t.fpe
  ar : Nums w B t.Aar t.nar t.far
  re : Nums w B t.Are t.nre t.fre
  inu : Nums w B t.Ain t.nin t.fin
  pa : Pairs w B t.Apa t.npa t.fpa t.gpa
  lpe : t.npe ≤ 9223372036854775807
  lar : t.nar ≤ 9223372036854775807
  lre : t.nre ≤ 9223372036854775807
  lin : t.nin ≤ 9223372036854775807
  lpa : t.npa ≤ 9223372036854775807

section
variable {w w' : World} {B B' : Nat} {t : Ty}
theorem Ty.In.below (h : t.In w B) (hb : Below B w w') : t.In w' B :=
  ⟨h.pe.below hb, h.ar.below hb, h.re.below hb, h.inu.below hb, h.pa.below hb, h.lpe, h.lar, h.lre, h.lin, h.lpa⟩
theorem Ty.In.mono (h : t.In w B) (hB : B ≤ B') : t.In w B' :=
  ⟨h.pe.mono hB, h.ar.mono hB, h.re.mono hB, h.inu.mono hB, h.pa.mono hB, h.lpe, h.lar, h.lre, h.lin, h.lpa⟩
theorem Ty.In.drewN (h : t.In w B) (n : Nat) : t.In (w.drewN n) B := ⟨h.pe, h.ar, h.re, h.inu, h.pa, h.lpe, h.lar, h.lre, h.lin, h.lpa⟩
theorem Ty.In.alloc (h : t.In w B) (hB : B ≤ w.heap.size) (o : Obj) : t.In (w.alloc o) B := h.below ((Below.refl B w).alloc hB o)
theorem Ty.In.keeps {b : Nat} (h : t.In w B) (hk : Keeps b w w') (hb : B ≤ b) : t.In w' B :=
  ⟨Cells.keeps h.pe hk hb, Cells.keeps h.ar hk hb, Cells.keeps h.re hk hb, Cells.keeps h.inu hk hb, Cells.keeps h.pa hk hb, h.lpe, h.lar, h.lre, h.lin, h.lpa⟩
end

/-- the first code that is not 0 -/
def firstErr : List Int → Int
  | [] => 0
  | a :: l => if a = 0 then firstErr l else a
theorem firstErr_stop {a : Int} {l : List Int} (h : a ≠ 0) : firstErr (a :: l) = a := if_neg h
theorem firstErr_go (l : List Int) : firstErr (0 :: l) = firstErr l := if_pos rfl
theorem firstErr_zero {l : List Int} (h : firstErr l = 0) : ∀ a ∈ l, a = 0 := by
  induction l with
  | nil => intro a ha; cases ha
  | cons x l ih =>
    by_cases e : x = 0
    · subst e
      rw [firstErr_go] at h
      intro a ha
      rcases List.mem_cons.1 ha with rfl | ha
      · rfl
      · exact ih h a ha
    · rw [firstErr_stop e] at h
      exact absurd h e
theorem firstErr_fine {l : List Int} (h : ∀ a ∈ l, a = 0) : firstErr l = 0 := by
  induction l with
  | nil => rfl
  | cons x l ih =>
    have e : x = 0 := h x (by simp)
    subst e
    rw [firstErr_go]
    exact ih fun a ha => h a (by simp [ha])

namespace Ty
/-- the spans of the fields of a kind: risk, cession, line, lines, retention, limit, window, deductible, aggregate, base, premium -/
def tab (k : Int) : List (Int × Int) :=
  if k = 1 then [(0, 0), (1, 1000000), (0, 0), (0, 0), (0, 0), (0, 1073741824), (0, 0), (0, 0), (0, 0), (0, 0), (0, 1073741824)]
  else if k = 2 then [(0, 0), (0, 0), (1, 1073741824), (1, 100), (0, 0), (0, 0), (0, 0), (0, 0), (0, 0), (0, 0), (0, 1073741824)]
  else if k = 3 then [(1, 1048576), (1, 1000000), (0, 0), (0, 0), (0, 0), (0, 0), (0, 0), (0, 0), (0, 0), (0, 0), (0, 1073741824)]
  else if k = 4 then [(0, 0), (0, 0), (0, 0), (0, 0), (0, 1073741824), (1, 1073741824), (0, 0), (0, 1073741824), (0, 1073741824), (0, 1000000000), (0, 1073741824)]
  else if k = 5 then [(0, 0), (0, 0), (0, 0), (0, 0), (0, 1073741824), (1, 1073741824), (1, 8784), (0, 1073741824), (0, 1073741824), (0, 0), (0, 1073741824)]
  else if k = 6 then [(0, 0), (0, 0), (0, 0), (0, 0), (0, 1073741824), (1, 1073741824), (0, 0), (0, 0), (0, 0), (0, 0), (0, 1073741824)]
  else [(0, 0), (0, 0), (0, 0), (0, 0), (0, 0), (0, 0), (0, 0), (0, 0), (0, 0), (0, 0), (0, 1073741824)]
def lo (k : Int) (i : Nat) : Int := ((tab k).getD i (0, 0)).1
def hi (k : Int) (i : Nat) : Int := ((tab k).getD i (0, 0)).2

def val (t : Ty) : Nat → Int
  | 0 => t.risk
  | 1 => t.cess
  | 2 => t.line
  | 3 => t.lines
  | 4 => t.ret
  | 5 => t.lim
  | 6 => t.win
  | 7 => t.ded
  | 8 => t.agg
  | 9 => t.base
  | _ => t.prem

/-- a field that the kind does not have, and one out of its span -/
def fc1 (k : Int) (v : Nat → Int) (i : Nat) : Int := if (lo k i = 0 ∧ hi k i = 0) ∧ v i ≠ 0 then 20 else 0
def fc2 (k : Int) (v : Nat → Int) (i : Nat) : Int := if ¬ (lo k i = 0 ∧ hi k i = 0) ∧ ¬ (lo k i ≤ v i ∧ v i ≤ hi k i) then 1 else 0
def ferr (t : Ty) : Int :=
  firstErr [scan (fc1 t.kind t.val) 11 0, if 0 < t.nre ∧ t.kind ≠ 4 ∧ t.kind ≠ 5 then 20 else 0, if t.nre = 0 ∧ t.timed = true then 20 else 0, scan (fc2 t.kind t.val) 11 0]

/-- lists in ascending order -/
def ac (a b : Int) (f : Nat → Int) (i : Nat) : Int := if ¬ (a ≤ f i ∧ f i ≤ b) then 1 else if 0 < i ∧ f i ≤ f (i - 1) then 13 else 0
def asc (a b : Int) (n : Nat) (f : Nat → Int) : Int := scan (ac a b f) n 0
/-- participations -/
def pc (f g : Nat → Int) (i : Nat) : Int := if ¬ ((1 ≤ f i ∧ f i ≤ 15) ∧ (1 ≤ g i ∧ g i ≤ 1000000)) then 1 else if 0 < i ∧ f i ≤ f (i - 1) then 13 else 0
def perr0 (n : Nat) (f g : Nat → Int) : Int := if 12 < n then 4 else scan (pc f g) n 0
def perr (n : Nat) (f g : Nat → Int) : Int := if perr0 n f g ≠ 0 then perr0 n f g else if 1000000 < Ex.psum g n then 14 else 0
def rc (f : Nat → Int) (i : Nat) : Int := if ¬ (0 ≤ f i ∧ f i ≤ 2000000) then 1 else 0
def hasB (f : Nat → Int) (n : Nat) (x : Int) : Bool := decide (∃ i, i < n ∧ f i = x)
def perP (a b : Int) : Bool := decide (0 ≤ a ∧ a < b ∧ b ≤ 876600)

def err (t : Ty) : Int :=
  firstErr [if 1 ≤ t.id ∧ t.id ≤ 1048576 then 0 else 1, if 1 ≤ t.kind ∧ t.kind ≤ 6 then 0 else 11, if perP t.pf t.pt = true then 0 else 12, asc 0 15 t.npe t.fpe, asc 0 15 t.nar t.far, t.ferr,
    if 8 < t.nre then 4 else 0, scan (rc t.fre) t.nre 0, if 12 < t.nin then 4 else 0, asc 1 1048576 t.nin t.fin, if hasB t.fin t.nin t.id = true then 10 else 0, perr t.npa t.fpa t.gpa]

theorem ac_bad {a b : Int} {f : Nat → Int} {i : Nat} (h : ¬ (a ≤ f i ∧ f i ≤ b)) : ac a b f i = 1 := if_pos h
theorem ac_order {a b : Int} {f : Nat → Int} {i : Nat} (h : a ≤ f i ∧ f i ≤ b) (h2 : 0 < i ∧ f i ≤ f (i - 1)) : ac a b f i = 13 := by rw [ac, if_neg (fun c => c h), if_pos h2]
theorem ac_fine {a b : Int} {f : Nat → Int} {i : Nat} (h : a ≤ f i ∧ f i ≤ b) (h2 : ¬ (0 < i ∧ f i ≤ f (i - 1))) : ac a b f i = 0 := by rw [ac, if_neg (fun c => c h), if_neg h2]
theorem pc_bad {f g : Nat → Int} {i : Nat} (h : ¬ ((1 ≤ f i ∧ f i ≤ 15) ∧ (1 ≤ g i ∧ g i ≤ 1000000))) : pc f g i = 1 := if_pos h
theorem pc_order {f g : Nat → Int} {i : Nat} (h : (1 ≤ f i ∧ f i ≤ 15) ∧ (1 ≤ g i ∧ g i ≤ 1000000)) (h2 : 0 < i ∧ f i ≤ f (i - 1)) : pc f g i = 13 := by rw [pc, if_neg (fun c => c h), if_pos h2]
theorem pc_fine {f g : Nat → Int} {i : Nat} (h : (1 ≤ f i ∧ f i ≤ 15) ∧ (1 ≤ g i ∧ g i ≤ 1000000)) (h2 : ¬ (0 < i ∧ f i ≤ f (i - 1))) : pc f g i = 0 := by rw [pc, if_neg (fun c => c h), if_neg h2]

theorem scan_one {c : Nat → Int} {e : Int} (h : ∀ i, c i = 0 ∨ c i = e) (k i : Nat) : scan c k i = 0 ∨ scan c k i = e := by
  induction k generalizing i with
  | zero => exact .inl rfl
  | succ k ih =>
    rw [scan]
    split
    · exact ih (i + 1)
    · rcases h i with h | h
      · contradiction
      · exact .inr h

/-- what is known of a valid treaty -/
theorem fine {t : Ty} (h : t.err = 0) : (1 ≤ t.id ∧ t.id ≤ 1048576) ∧ (1 ≤ t.kind ∧ t.kind ≤ 6) ∧ (0 ≤ t.pf ∧ t.pf < t.pt ∧ t.pt ≤ 876600) ∧ t.ferr = 0 ∧ t.nre ≤ 8 ∧ (∀ i, i < t.nre → 0 ≤ t.fre i ∧ t.fre i ≤ 2000000) := by
  have hz := firstErr_zero h
  have h1 := hz (if 1 ≤ t.id ∧ t.id ≤ 1048576 then 0 else 1) (by simp)
  have h2 := hz (if 1 ≤ t.kind ∧ t.kind ≤ 6 then 0 else 11) (by simp)
  have h3 := hz (if perP t.pf t.pt = true then 0 else 12) (by simp)
  have h4 := hz t.ferr (by simp)
  have h5 := hz (if 8 < t.nre then 4 else 0) (by simp)
  have h6 := hz (scan (rc t.fre) t.nre 0) (by simp)
  refine ⟨by split at h1 <;> first | assumption | omega, by split at h2 <;> first | assumption | omega, ?_, h4, by split at h5 <;> omega, fun i hi => ?_⟩
  · split at h3
    · rename_i h; unfold perP at h; exact of_decide_eq_true h
    · omega
  · have := scan_zero _ _ _ h6 i (by omega) (by omega)
    unfold rc at this
    split at this
    · omega
    · rename_i h; omega
theorem span {t : Ty} (h : t.ferr = 0) (i : Nat) (hi' : i < 11) : (lo t.kind i = 0 ∧ hi t.kind i = 0) ∧ t.val i = 0 ∨ lo t.kind i ≤ t.val i ∧ t.val i ≤ hi t.kind i := by
  have hz := firstErr_zero h
  have h1 := scan_zero _ _ _ (hz (scan (fc1 t.kind t.val) 11 0) (by simp)) i (by omega) (by omega)
  have h2 := scan_zero _ _ _ (hz (scan (fc2 t.kind t.val) 11 0) (by simp)) i (by omega) (by omega)
  unfold fc1 at h1
  unfold fc2 at h2
  by_cases c : lo t.kind i = 0 ∧ hi t.kind i = 0
  · refine .inl ⟨c, ?_⟩
    by_cases e : t.val i = 0
    · exact e
    · rw [if_pos ⟨c, e⟩] at h1; omega
  · refine .inr ?_
    by_cases e : lo t.kind i ≤ t.val i ∧ t.val i ≤ hi t.kind i
    · exact e
    · rw [if_pos ⟨c, e⟩] at h2; omega
end Ty
end Go.Proofs.YtbeikfopneeodaaGreat
namespace Go.Proofs.YtbeikfopneeodaaGreat
open Go.RowKit

theorem ret_i64 {a b : Int} (h : a = b) : Ending.returned (.int .i64 a) = .returned (.int .i64 b) := by rw [h]

set_option maxHeartbeats 400000 in
theorem least1 (x y : Int) (b : Nat) (w : World) (h : w.cell? ⟨b, 0, none⟩ = some (.int .i64 y)) :
    Calls Tryz.prog 233 #[.int .i64 x, .slice (some ⟨b, 0, none⟩) 1 1] w fun e w' => e = .returned (.int .i64 (min x y)) ∧ w = w' := by
  go_enter Tryz.func233, Tryz.ntmps233
  go_wp2
  go_loop [0, 6, 9] (fun s _ i => ∃ k : Nat, k ≤ 1 ∧ i = .int .i64 k ∧ s = .int .i64 (if k = 0 then x else min x y)) (fun _ _ i => 1 - (intOf i).toNat)
  case atStart => exact ⟨0, by omega, rfl, rfl⟩
  case round =>
    obtain ⟨k, hk, rfl, rfl⟩ := hrel
    have hk' : k = 0 ∨ k = 1 := by omega
    rcases hk' with rfl | rfl
    · by_cases hc : y < x
      · go_wp2
        go_round
        case rel => exact ⟨1, by omega, by go_num, by simp only [Nat.one_ne_zero, if_false]; congr 1; omega⟩
        case measure => simp [intOf]
      · go_wp2
        go_round
        case rel => exact ⟨1, by omega, by go_num, by simp only [Nat.one_ne_zero, if_false]; congr 1; omega⟩
        case measure => simp [intOf]
    · go_wp2
      go_ret
      exact ⟨ret_i64 (by simp), rfl⟩

set_option maxHeartbeats 400000 in
theorem greatest1 (x y : Int) (b : Nat) (w : World) (h : w.cell? ⟨b, 0, none⟩ = some (.int .i64 y)) :
    Calls Tryz.prog 235 #[.int .i64 x, .slice (some ⟨b, 0, none⟩) 1 1] w fun e w' => e = .returned (.int .i64 (max x y)) ∧ w = w' := by
  go_enter Tryz.func235, Tryz.ntmps235
  go_wp2
  go_loop [0, 6, 9] (fun s _ i => ∃ k : Nat, k ≤ 1 ∧ i = .int .i64 k ∧ s = .int .i64 (if k = 0 then x else max x y)) (fun _ _ i => 1 - (intOf i).toNat)
  case atStart => exact ⟨0, by omega, rfl, rfl⟩
  case round =>
    obtain ⟨k, hk, rfl, rfl⟩ := hrel
    have hk' : k = 0 ∨ k = 1 := by omega
    rcases hk' with rfl | rfl
    · by_cases hc : x < y
      · go_wp2
        go_round
        case rel => exact ⟨1, by omega, by go_num, by simp only [Nat.one_ne_zero, if_false]; congr 1; omega⟩
        case measure => simp [intOf]
      · go_wp2
        go_round
        case rel => exact ⟨1, by omega, by go_num, by simp only [Nat.one_ne_zero, if_false]; congr 1; omega⟩
        case measure => simp [intOf]
    · go_wp2
      go_ret
      exact ⟨ret_i64 (by simp), rfl⟩

/-- an amount that is returned; memory is made and nothing else changes -/
def IntPost (n : Int) (w : World) (e : Ending) (w' : World) : Prop := e = .returned (.int .i64 n) ∧ Below w.heap.size w w'

set_option maxHeartbeats 400000 in
theorem limited_any (n : Int) (w : World) : Calls Tryz.prog 234 #[.int .i64 n] w (IntPost (Ex.lim n) w) := by
  go_enter Tryz.func234, Tryz.ntmps234
  go_wp2_with fail
  refine (least1 _ 17592186044416 _ _ (by simp)).mono ?_
  rintro e w' ⟨rfl, rfl⟩
  go_wp2_with fail
  refine (greatest1 _ _ _ _ (by simp; rfl)).mono ?_
  rintro e w' ⟨rfl, rfl⟩
  go_wp2_with fail
  go_ret
  exact ⟨rfl, ((Below.refl _ _).alloc (Nat.le_refl _) _).alloc (by simp) _⟩

set_option maxHeartbeats 1000000 in
theorem layer_any (a r l : Int) (w : World) : Calls Tryz.prog 199 #[.int .i64 a, .int .i64 r, .int .i64 l] w (IntPost (Ex.layer a r l) w) := by
  have ha := Ex.lim_bound a
  have hr := Ex.lim_bound r
  obtain ⟨xa, hxa⟩ : ∃ x, Ex.lim a = x := ⟨_, rfl⟩
  obtain ⟨xr, hxr⟩ : ∃ x, Ex.lim r = x := ⟨_, rfl⟩
  obtain ⟨xl, hxl⟩ : ∃ x, Ex.lim l = x := ⟨_, rfl⟩
  have HL : Hid (Ex.layer a r l = min xl (max 0 (xa - xr))) := Lib.hid (by rw [Ex.layer, hxa, hxr, hxl])
  have CA := Lib.hid (limited_any a)
  have CR := Lib.hid (limited_any r)
  have CL := Lib.hid (limited_any l)
  rw [hxa] at ha CA
  rw [hxr] at hr CR
  rw [hxl] at CL
  obtain ⟨a0, a1⟩ := ha
  obtain ⟨r0, r1⟩ := hr
  clear hxa hxr hxl
  go_enter Tryz.func199, Tryz.ntmps199
  go_wp2_with fail
  refine (CL.out _).mono ?_
  rintro e w1 ⟨rfl, hb1⟩
  go_wp2_with fail
  refine (CA.out _).mono ?_
  rintro e w2 ⟨rfl, hb2⟩
  go_wp2_with fail
  refine (CR.out _).mono ?_
  rintro e w3 ⟨rfl, hb3⟩
  have HB : Hid (Below w.heap.size w w3) := Lib.hid (hb1.trans ((hb2.mono hb1.size).trans (hb3.mono (Nat.le_trans hb1.size hb2.size))))
  have hs := HB.out.size
  clear hb1 hb2 hb3 CA CR CL
  go_wp2_with fail
  refine (greatest1 _ _ _ _ (by simp; rfl)).mono ?_
  rintro e w' ⟨rfl, rfl⟩
  go_wp2_with fail
  refine (least1 _ _ _ _ (by simp; rfl)).mono ?_
  rintro e w' ⟨rfl, rfl⟩
  go_wp2_with fail
  go_ret
  exact ⟨ret_i64 HL.out.symm, (HB.out.alloc hs _).alloc (by simp; omega) _⟩


set_option maxHeartbeats 400000 in
theorem exwithin_any (n lo hi : Int) (w : World) : Calls Tryz.prog 56 #[.int .i64 n, .int .i64 lo, .int .i64 hi] w fun e w' => e = .returned (.bool (decide (lo ≤ n ∧ n ≤ hi))) ∧ w = w' := by
  by_cases h0 : lo ≤ n
  · by_cases h1 : n ≤ hi
    · go_enter Tryz.func56, Tryz.ntmps56
      go_wp2
      go_ret
      exact ⟨by simp [h0, h1], rfl⟩
    · go_enter Tryz.func56, Tryz.ntmps56
      go_wp2
      go_ret
      exact ⟨by simp; omega, rfl⟩
  · go_enter Tryz.func56, Tryz.ntmps56
    go_wp2
    go_ret
    exact ⟨by simp; omega, rfl⟩

end Go.Proofs.YtbeikfopneeodaaGreat
namespace Go.Proofs.YtbeikfopneeodaaGreat
open Go.RowKit
set_option linter.unusedVariables false

set_option maxHeartbeats 400000 in
theorem tywithin_any (n lo hi : Int) (w : World) : Calls Tryz.prog 81 #[.int .i64 n, .int .i64 lo, .int .i64 hi] w fun e w' => e = .returned (.bool (decide (lo ≤ n ∧ n ≤ hi))) ∧ w = w' := by
  by_cases h0 : lo ≤ n
  · by_cases h1 : n ≤ hi
    · go_enter Tryz.func81, Tryz.ntmps81
      go_wp2
      go_ret
      exact ⟨by simp [h0, h1], rfl⟩
    · go_enter Tryz.func81, Tryz.ntmps81
      go_wp2
      go_ret
      exact ⟨by simp; omega, rfl⟩
  · go_enter Tryz.func81, Tryz.ntmps81
    go_wp2
    go_ret
    exact ⟨by simp; omega, rfl⟩

/-- a truth that is returned; memory is made and nothing else changes -/
def BoolPost (b : Bool) (w : World) (e : Ending) (w' : World) : Prop := e = .returned (.bool b) ∧ Below w.heap.size w w'
theorem ret_bool {a b : Bool} (h : a = b) : Ending.returned (.bool a) = .returned (.bool b) := by rw [h]

theorem Ty.perP_false {a b : Int} (h : ¬ (0 ≤ a ∧ a < b ∧ b ≤ 876600)) : false = Ty.perP a b := (decide_eq_false_iff_not.2 h).symm
theorem Ty.perP_true {a b : Int} (h : 0 ≤ a ∧ a < b ∧ b ≤ 876600) : true = Ty.perP a b := (decide_eq_true h).symm

set_option maxHeartbeats 1000000 in
theorem period_any (a b : Int) (w : World) : Calls Tryz.prog 82 #[.agg #[.int .i64 a, .int .i64 b]] w (BoolPost (Ty.perP a b) w) := by
  have hf : ¬ (0 ≤ a ∧ a < b ∧ b ≤ 876600) → Hid (false = Ty.perP a b) := fun h => Lib.hid (Ty.perP_false h)
  have ht : (0 ≤ a ∧ a < b ∧ b ≤ 876600) → Hid (true = Ty.perP a b) := fun h => Lib.hid (Ty.perP_true h)
  by_cases h0 : 0 ≤ a
  · by_cases h1 : a < b
    · by_cases h2 : b ≤ 876600
      · have HG := ht ⟨h0, h1, h2⟩
        clear hf ht
        go_enter Tryz.func82, Tryz.ntmps82
        go_wp2
        go_ret
        exact ⟨ret_bool HG.out, (Below.refl _ _).alloc (Nat.le_refl _) _⟩
      · have HG := hf (by omega)
        clear hf ht
        go_enter Tryz.func82, Tryz.ntmps82
        go_wp2
        go_ret
        exact ⟨ret_bool HG.out, (Below.refl _ _).alloc (Nat.le_refl _) _⟩
    · have HG := hf (by omega)
      clear hf ht
      go_enter Tryz.func82, Tryz.ntmps82
      go_wp2
      go_ret
      exact ⟨ret_bool HG.out, (Below.refl _ _).alloc (Nat.le_refl _) _⟩
  · have HG := hf (by omega)
    clear hf ht
    go_enter Tryz.func82, Tryz.ntmps82
    go_wp2
    go_ret
    exact ⟨ret_bool HG.out, (Below.refl _ _).alloc (Nat.le_refl _) _⟩

set_option maxHeartbeats 1000000 in
theorem asc_any (A : Option Addr) (n c : Nat) (f : Nat → Int) (a z : Int) (w : World) (hn : n ≤ 9223372036854775807) (h : Nums w w.heap.size A n f) :
    Calls Tryz.prog 83 #[.slice A n c, .int .i64 a, .int .i64 z] w (IntPost (Ty.asc a z n f) w) := by
  obtain ⟨r, hr⟩ : ∃ r, Ty.asc a z n f = r := ⟨_, rfl⟩
  have HR : Hid (scan (Ty.ac a z f) (n - 0) 0 = r) := Lib.hid hr
  rw [hr]
  have H := Lib.hid h
  clear hr h
  go_enter Tryz.func83, Tryz.ntmps83
  go_wp2
  go_loop [7, 8, 11] (fun _ _ i => ∃ k : Nat, k ≤ n ∧ i = .int .i64 k ∧ Hid (scan (Ty.ac a z f) (n - k) k = r)) (fun _ _ i => n - (intOf i).toNat)
  case atStart => exact ⟨0, Nat.zero_le _, rfl, HR⟩
  case round =>
    obtain ⟨k, hk, rfl, HS⟩ := hrel
    by_cases hlt : k < n
    · obtain ⟨b, o, rfl, had, hc0⟩ := H.out.get hlt
      obtain ⟨x, hx⟩ : ∃ x, f k = x := ⟨_, rfl⟩
      rw [hx] at hc0
      have HX := Lib.hid hx
      clear hx
      by_cases hh : a ≤ x ∧ x ≤ z
      · obtain ⟨hh0, hh1⟩ := hh
        have hP : a ≤ f k ∧ f k ≤ z := by rw [HX.out]; exact ⟨hh0, hh1⟩
        have HP := Lib.hid hP
        clear hP
        cases k with
        | zero =>
          have HG : Hid (scan (Ty.ac a z f) (n - (0 + 1)) (0 + 1) = r) := Lib.hid (by rw [← scan_go _ hlt (Ty.ac_fine HP.out (by omega))]; exact HS.out)
          clear HP HX HS
          simp only [Nat.add_zero] at hc0
          go_wp2_with (go_at_call 81; refine (tywithin_any _ _ _ _).mono ?_; rintro e w' ⟨rfl, rfl⟩)
          go_round
          case rel => exact ⟨0 + 1, by omega, rfl, HG⟩
          case measure => simp [intOf]; omega
        | succ j =>
          obtain ⟨b', o', e', _, hp0⟩ := H.out.get (j := j) (by omega)
          simp only [Option.some.injEq, Addr.mk.injEq, and_true] at e'
          obtain ⟨rfl, rfl⟩ := e'
          obtain ⟨p, hp⟩ : ∃ p, f j = p := ⟨_, rfl⟩
          rw [hp] at hp0
          have HPP := Lib.hid hp
          have hw : IntKind.i64.wrap (((j + 1 : Nat) : Int) - 1) = j := by rw [IntKind.wrap_i64]; omega
          have hj0 : (0 : Int) ≤ j := by omega
          have hj1 : (j : Int) < n := by omega
          clear hp
          by_cases ho : x ≤ p
          · have HG : Hid (13 = r) := Lib.hid (by rw [← HS.out, scan_stop _ hlt (by rw [Ty.ac_order HP.out ⟨by omega, by rw [HX.out, Nat.add_sub_cancel, HPP.out]; exact ho⟩]; omega), Ty.ac_order HP.out ⟨by omega, by rw [HX.out, Nat.add_sub_cancel, HPP.out]; exact ho⟩])
            clear HP HX HS HPP
            go_wp2_with (go_at_call 81; refine (tywithin_any _ _ _ _).mono ?_; rintro e w' ⟨rfl, rfl⟩)
            go_ret
            exact ⟨ret_i64 HG.out, Below.refl _ _⟩
          · have HG : Hid (scan (Ty.ac a z f) (n - (j + 1 + 1)) (j + 1 + 1) = r) := Lib.hid (by rw [← scan_go _ hlt (Ty.ac_fine HP.out (by rw [HX.out, Nat.add_sub_cancel, HPP.out]; omega))]; exact HS.out)
            clear HP HX HS HPP
            go_wp2_with (go_at_call 81; refine (tywithin_any _ _ _ _).mono ?_; rintro e w' ⟨rfl, rfl⟩)
            go_round
            case rel => exact ⟨j + 1 + 1, by omega, by go_num, HG⟩
            case measure => simp [intOf]; omega
      · have hP : ¬ (a ≤ f k ∧ f k ≤ z) := by rw [HX.out]; exact hh
        have HG : Hid (1 = r) := Lib.hid (by rw [← HS.out, scan_stop _ hlt (by rw [Ty.ac_bad hP]; omega), Ty.ac_bad hP])
        have hd : decide (a ≤ x ∧ x ≤ z) = false := by rw [decide_eq_false_iff_not]; exact hh
        clear hP HX HS hh
        go_wp2_with (go_at_call 81; refine (tywithin_any _ _ _ _).mono ?_; rintro e w' ⟨rfl, rfl⟩)
        go_ret
        exact ⟨ret_i64 HG.out, Below.refl _ _⟩
    · obtain rfl : k = n := by omega
      have HE : Hid (0 = r) := Lib.hid (by rw [← HS.out, scan_end])
      go_wp2
      go_ret
      exact ⟨ret_i64 HE.out, Below.refl _ _⟩

end Go.Proofs.YtbeikfopneeodaaGreat
