/- Package adjust in plain words; no program in sight. -/
import Derived.Test.YtageedgbkaknnaaAmLaws2
import Derived.WalkKit
namespace Go.Proofs.Ytageedgbkaknnaa.Ad

structure Dec where
  v : Int
  l : Int
  d : Int
  f : Int
  c : Int
  a : Bool

structure Itm where
  val : Int
  sum : Int
  gross : Int

structure Adj where
  gross : Int
  unins : Int
  aver : Int
  fran : Int
  ded : Int
  coin : Int
  over : Int
  sub : Int
  net : Int

def Dec.agg (D : Dec) : Value := .agg #[.int .i64 D.v, .int .i64 D.l, .int .i64 D.d, .int .i64 D.f, .int .i64 D.c, .bool D.a]
def Itm.agg (X : Itm) (F : Value) : Value := .agg #[F, .int .i64 X.val, .int .i64 X.sum, .int .i64 X.gross]
def Adj.agg (A : Adj) : Value := .agg #[.int .i64 A.gross, .int .i64 A.unins, .int .i64 A.aver, .int .i64 A.fran, .int .i64 A.ded, .int .i64 A.coin, .int .i64 A.over, .int .i64 A.sub, .int .i64 A.net]

def zero : Adj := ⟨0, 0, 0, 0, 0, 0, 0, 0, 0⟩

def money (n : Int) : Prop := 0 ≤ n ∧ n ≤ 1073741824
instance (n : Int) : Decidable (money n) := inferInstanceAs (Decidable (_ ∧ _))

def itemErr (X : Itm) : Int := if money X.val ∧ money X.sum ∧ money X.gross then 0 else 1

def err (D : Dec) (X : Itm) : Int :=
  if D.v = 4 then (if (D.l = -1 ∨ money D.l) ∧ money D.d ∧ money D.f ∧ 0 ≤ D.c ∧ D.c ≤ 1000000 then itemErr X else 1)
  else if D.v = 1 ∨ D.v = 2 ∨ D.v = 3 then (if D.l = 0 ∧ D.d = 0 ∧ D.f = 0 ∧ D.c = 0 ∧ D.a = false then itemErr X else 20)
  else 11

def aver (D : Dec) (X : Itm) : Int := if D.a = false ∨ X.val ≤ X.sum then 0 else X.gross - (Am.md X.gross X.sum X.val 4).1
def r1 (D : Dec) (X : Itm) : Int := X.gross - aver D X
def fran (D : Dec) (X : Itm) : Int := if D.f ≤ r1 D X then 0 else r1 D X
def r2 (D : Dec) (X : Itm) : Int := r1 D X - fran D X
def ded (D : Dec) (X : Itm) : Int := min (r2 D X) D.d
def r3 (D : Dec) (X : Itm) : Int := r2 D X - ded D X
def coin (D : Dec) (X : Itm) : Int := (Am.md (r3 D X) D.c 1000000 4).1
def r4 (D : Dec) (X : Itm) : Int := r3 D X - coin D X
def over (D : Dec) (X : Itm) : Int := if D.l = -1 then 0 else max 0 (r4 D X - D.l)
def net (D : Dec) (X : Itm) : Int := r4 D X - over D X

def paid (D : Dec) (X : Itm) : Adj := ⟨X.gross, 0, aver D X, fran D X, ded D X, coin D X, over D X, 0, net D X⟩

def res (D : Dec) (X : Itm) : Adj := if err D X = 0 then (if D.v = 4 then paid D X else { zero with gross := X.gross, unins := X.gross }) else zero

/-- a part of at most the whole -/
theorem md_part (a num den : Int) (a0 : 0 ≤ a) (a1 : a ≤ 17592186044416) (n0 : 0 ≤ num) (n1 : num ≤ den) (d0 : 1 ≤ den) (d1 : den ≤ 17592186044416) :
    ∃ n, Am.md a num den 4 = (n, 0) ∧ 0 ≤ n ∧ n ≤ a := by
  have hv : Am.validB a = true := (Am.validB_iff a).2 ⟨by omega, by omega⟩
  have hn : Am.factorB num = true := (Am.factorB_iff num).2 ⟨by omega, by omega⟩
  have hd : Am.factorB den = true := (Am.factorB_iff den).2 ⟨by omega, by omega⟩
  have ea : Am.absI a = a := by unfold Am.absI; rw [if_neg (by omega)]
  have hp0 : 0 ≤ a * num := Int.mul_nonneg a0 n0
  have hp1 : a * num ≤ a * den := Int.mul_le_mul_of_nonneg_left n1 a0
  have hq0 : 0 ≤ a * num / den := Int.ediv_nonneg hp0 (by omega)
  have hdm := Int.mul_ediv_add_emod (a * num) den
  have hr0 := Int.emod_nonneg (a * num) (show den ≠ 0 by omega)
  have hr1 := Int.emod_lt_of_pos (a * num) (show 0 < den by omega)
  have hq1 : a * num / den ≤ a := by
    have := Int.ediv_le_ediv (show 0 < den by omega) hp1
    rwa [Int.mul_ediv_cancel _ (by omega)] at this
  have hmag : Am.mag a num den 4 ≤ a ∧ 0 ≤ Am.mag a num den 4 := by
    unfold Am.mag
    rw [ea]
    by_cases e : a * num / den = a
    · have hr : a * num % den = 0 := by
        rw [e, Int.mul_comm den a] at hdm
        omega
      rw [hr, e]
      simp [Am.awayB]
      exact a0
    · constructor
      · split <;> omega
      · split <;> omega
  refine ⟨_, Am.md_ok (by omega) ⟨hv, hn, hd⟩ (by omega) (by omega), ?_⟩
  rw [if_neg (by omega)]
  omega

/-- an accepted item's numbers, step by step -/
structure Good (D : Dec) (X : Itm) : Prop where
  gross : 0 ≤ X.gross ∧ X.gross ≤ 1073741824
  aver : 0 ≤ aver D X ∧ aver D X ≤ X.gross
  r1 : 0 ≤ r1 D X ∧ r1 D X ≤ X.gross
  fran : 0 ≤ fran D X ∧ fran D X ≤ Ad.r1 D X
  r2 : 0 ≤ r2 D X ∧ r2 D X ≤ Ad.r1 D X
  ded : 0 ≤ ded D X ∧ ded D X ≤ Ad.r2 D X
  r3 : 0 ≤ r3 D X ∧ r3 D X ≤ Ad.r2 D X
  coin : 0 ≤ coin D X ∧ coin D X ≤ Ad.r3 D X
  r4 : 0 ≤ r4 D X ∧ r4 D X ≤ Ad.r3 D X
  over : 0 ≤ over D X ∧ over D X ≤ Ad.r4 D X
  net : 0 ≤ net D X ∧ net D X ≤ Ad.r4 D X
  mdA : ¬ (D.a = false ∨ X.val ≤ X.sum) → Am.md X.gross X.sum X.val 4 = (X.gross - Ad.aver D X, 0)
  mdC : Am.md (Ad.r3 D X) D.c 1000000 4 = (Ad.coin D X, 0)
  lim : -1 ≤ D.l ∧ D.l ≤ 1073741824

theorem good (D : Dec) (X : Itm) (he : err D X = 0) (hv : D.v = 4) : Good D X := by
  unfold err at he
  rw [if_pos hv] at he
  by_cases h1 : (D.l = -1 ∨ money D.l) ∧ money D.d ∧ money D.f ∧ 0 ≤ D.c ∧ D.c ≤ 1000000
  · rw [if_pos h1] at he
    unfold itemErr at he
    by_cases h2 : money X.val ∧ money X.sum ∧ money X.gross
    · unfold money at h1 h2
      have hg : 0 ≤ X.gross ∧ X.gross ≤ 1073741824 := h2.2.2
      have ha : (0 ≤ aver D X ∧ aver D X ≤ X.gross) ∧ (¬ (D.a = false ∨ X.val ≤ X.sum) → Am.md X.gross X.sum X.val 4 = (X.gross - aver D X, 0)) := by
        unfold aver
        by_cases c : D.a = false ∨ X.val ≤ X.sum
        · rw [if_pos c]; exact ⟨by omega, fun h => absurd c h⟩
        · rw [if_neg c]
          obtain ⟨n, e, n0, n1⟩ := md_part X.gross X.sum X.val (by omega) (by omega) (by omega) (by omega) (by omega) (by omega)
          rw [e]
          exact ⟨by simp only; omega, fun _ => by simp only [Prod.mk.injEq, and_true]; omega⟩
      have hr1 : 0 ≤ r1 D X ∧ r1 D X ≤ X.gross := by unfold r1; omega
      have hf : 0 ≤ fran D X ∧ fran D X ≤ r1 D X := by unfold fran; split <;> omega
      have hr2 : 0 ≤ r2 D X ∧ r2 D X ≤ r1 D X := by unfold r2; omega
      have hd : 0 ≤ ded D X ∧ ded D X ≤ r2 D X := by unfold ded; omega
      have hr3 : 0 ≤ r3 D X ∧ r3 D X ≤ r2 D X := by unfold r3; omega
      have hc : (0 ≤ coin D X ∧ coin D X ≤ r3 D X) ∧ Am.md (r3 D X) D.c 1000000 4 = (coin D X, 0) := by
        obtain ⟨n, e, n0, n1⟩ := md_part (r3 D X) D.c 1000000 (by omega) (by omega) (by omega) (by omega) (by omega) (by omega)
        unfold coin
        rw [e]
        exact ⟨⟨n0, n1⟩, rfl⟩
      have hr4 : 0 ≤ r4 D X ∧ r4 D X ≤ r3 D X := by unfold r4; omega
      have ho : 0 ≤ over D X ∧ over D X ≤ r4 D X := by unfold over; split <;> omega
      have hn : 0 ≤ net D X ∧ net D X ≤ r4 D X := by unfold net; omega
      exact ⟨hg, ha.1, hr1, hf, hr2, hd, hr3, hc.1, hr4, ho, hn, ha.2, hc.2, by omega⟩
    · rw [if_neg h2] at he; omega
  · rw [if_neg h1] at he; omega
end Go.Proofs.Ytageedgbkaknnaa.Ad
