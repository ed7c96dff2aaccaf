/- exchange.at and exchange.At. -/
import Derived.Test.YtojpjglkdmmfjaaXcB
import Derived.Test.YtojpjglkdmmfjaaXcV
import Derived.RangeFuncFrom
namespace Go.Proofs.Ytojpjglkdmmfjaa
open Go.RowKit Go.Shelf
set_option linter.unusedVariables false
attribute [local go_sem] Oper.semAt_some

theorem has_own {β : Type} (B : Nat) (cs : Array Value) (t : TypeId) : Own (fun (_ : β) W => Has W B cs t) := fun s X Y row hs hg hrow =>
  (hg.block B hs.lt (fun e' => by obtain ⟨o, ho, hc⟩ := hrow B e'.symm; rw [show X.heap[B]? = _ from hs] at ho; cases ho; cases hc)).trans hs

def Xc.fits (c h : Int) (x : T3) : Prop := x.a = c ∧ x.b ≤ h
def Xc.none' (c h : Int) (pre : List (Int × T3)) : Prop := ∀ p ∈ pre, ¬ Xc.fits c h p.2
theorem Xc.none_snoc {c h : Int} {pre : List (Int × T3)} {x : Int × T3} (h1 : Xc.none' c h pre) (h2 : ¬ Xc.fits c h x.2) : Xc.none' c h (pre ++ [x]) := fun p hp => by
  rcases List.mem_append.1 hp with e | e
  · exact h1 p e
  · rw [List.mem_singleton] at e; subst e; exact h2
theorem Xc.st_skip {f : Nat → T3} {c h : Int} {n : Nat} : ∀ k, k ≤ n → (∀ j, j < k → ¬ Xc.fits c h (f (n - 1 - j))) → Xc.st f c h n = Xc.st f c h (n - k) := fun k => by
  induction k with
  | zero => intro _ _; rfl
  | succ k ih =>
    intro hk hf
    rw [ih (by omega) fun j hj => hf j (by omega)]
    obtain ⟨m, hm⟩ : ∃ m, n - k = m + 1 := ⟨n - k - 1, by omega⟩
    have := hf k (by omega)
    rw [show n - 1 - k = m by omega] at this
    rw [hm, Xc.st, if_neg (show ¬ ((f m).a = c ∧ (f m).b ≤ h) from this), show n - (k + 1) = m by omega]
theorem Xc.st_all {f : Nat → T3} {c h : Int} {n : Nat} (hp : Xc.none' c h (upto (bk n f) n)) : Xc.st f c h n = (0, 15) := by
  rw [Xc.st_skip n (Nat.le_refl _) fun j hj => hp (bk n f j) (List.mem_map.2 ⟨j, List.mem_range.2 hj, rfl⟩), Nat.sub_self]
  rfl
theorem Xc.st_hit {f : Nat → T3} {c h : Int} {n k : Nat} {ini : List (Int × T3)} {last : Int × T3} (hk : k ≤ n) (e : upto (bk n f) k = ini ++ [last]) (hp : Xc.none' c h ini) (hl : Xc.fits c h last.2) : Xc.st f c h n = (last.2.c, 0) := by
  obtain ⟨k', rfl⟩ : ∃ k', k = k' + 1 := by
    cases k with
    | zero => simp [upto] at e
    | succ k' => exact ⟨k', rfl⟩
  rw [upto_succ] at e
  obtain ⟨rfl, e5⟩ := List.append_inj' e rfl
  obtain rfl : bk n f k' = last := by simpa using e5
  rw [Xc.st_skip k' (by omega) fun j hj => hp (bk n f j) (List.mem_map.2 ⟨j, List.mem_range.2 hj, rfl⟩)]
  obtain ⟨m, hm⟩ : ∃ m, n - k' = m + 1 := ⟨n - k' - 1, by omega⟩
  have e6 : bk n f k' = (((n - 1 - k' : Nat) : Int), f (n - 1 - k')) := rfl
  rw [e6] at hl ⊢
  rw [hm, Xc.st, if_pos (show (f m).a = c ∧ (f m).b ≤ h by rw [show n - 1 - k' = m by omega] at hl; exact hl), show n - 1 - k' = m by omega]

set_option maxRecDepth 100000 in
set_option maxHeartbeats 4000000 in
theorem at1_in (F : Fence) (n : Nat) (h3 : F.fn 32) (h4 : F.fn 28) (h5 : F.fn 42) (h7 : F.fn 51) (hro : F.round = none) (hn : 6 ≤ n)
    (CH : ∀ (h : Int) (W : World), Xc.hourP h → CallsIn F (n - 1) Try.prog 28 #[.int .i64 h] W fun e w' => e = .returned (.bool true) ∧ W = w')
    (A : Option Addr) (len cap : Nat) (f : Nat → T3) (c h : Int) (w : World) (hlen : len ≤ 1000) (hT : Trips w w.heap.size A len f) (hh : Xc.hourP h) (hc : (c == 0) = false) :
    CallsIn F n Try.prog 32 #[.slice A len cap, .int .i64 c, .int .i64 h] w (PairPost (Xc.st f c h len) w) := by
  have h1 : 1 ≤ n := by omega
  refine callsIn_of_wp_marks Try.func32 rfl h3 ?_ hro
  simp only [Try.ntmps32, List.size_toArray, List.length_cons, List.length_nil, Nat.reduceAdd, Nat.reduceSub, Array.replicate_succ, Array.replicate_zero, List.push_toArray, List.append_toArray, List.nil_append, List.cons_append]
  gi_wp2_with (first
    | (gi_at_call 28; refine (CH _ _ hh).mono ?_; rintro e w' ⟨rfl, rfl⟩)
    | (gi_at_call 42; refine (back_in F (n - 1) h5 hro _ _ _ _).mono ?_; rintro e w' ⟨rfl, rfl⟩))
  obtain ⟨W0, hW0⟩ : ∃ W0, ((((w.alloc (.cells #[.int .i64 c] 3)).alloc (.cells #[.int .i64 h] 3)).alloc (.cells #[.int .i64 0] 3)).alloc (.cells #[.int .i64 0] 30)).alloc (.cells #[.slice A len cap] 25) = W0 := ⟨_, rfl⟩
  have hB0 : Below w.heap.size w W0 := by rw [← hW0]; exact (by (repeat' (first | (with_reducible exact Below.refl _ _) | (with_reducible refine Below.setCell ?_ ?_ _) | (with_reducible refine below_drewN ?_ _) | (with_reducible refine Below.drew ?_) | (with_reducible refine Below.alloc ?_ ?_ _))) <;> (first | omega | (simp <;> omega)))
  have hsz : w.heap.size + 1 + 1 + 1 + 1 < W0.heap.size := by rw [← hW0]; simp
  have bC : Has W0 w.heap.size #[.int .i64 c] 3 := by rw [← hW0]; exact ((((Has.new w _ _).alloc _).alloc _).alloc _).alloc _
  have bH : Has W0 (w.heap.size + 1) #[.int .i64 h] 3 := by rw [← hW0]; exact (((Has.new' _ _ _ _ (by simp)).alloc _).alloc _).alloc _
  have bR : Has W0 (w.heap.size + 1 + 1) #[.int .i64 0] 3 := by rw [← hW0]; exact ((Has.new' _ _ _ _ (by simp)).alloc _).alloc _
  have bE : Has W0 (w.heap.size + 1 + 1 + 1) #[.int .i64 0] 30 := by rw [← hW0]; exact (Has.new' _ _ _ _ (by simp)).alloc _
  have bS : Has W0 (w.heap.size + 1 + 1 + 1 + 1) #[.slice A len cap] 25 := by rw [← hW0]; exact Has.new' _ _ _ _ (by simp)
  have hcS := bS.cell 0
  simp only [List.getElem?_toArray, List.getElem?_cons_zero] at hcS
  have hT0 : Trips W0 W0.heap.size A len f := (hT.below hB0).mono hB0.size
  rw [hW0]
  have HC := Lib.hid bC
  have HH := Lib.hid bH
  have HR := Lib.hid bR
  have HE := Lib.hid bE
  clear hW0 bC bH bR bE bS hT CH hh
  refine wpIn_rangeFunc_ownH hro h1 (gf := 51) (lb := #[.pointer (some ⟨w.heap.size + 1 + 1 + 1 + 1, 0, none⟩)]) rfl h7 (enters_of Try.func51 (by kernel_rfl) rfl)
    (back_stops F (n - 1) h7 hro (by omega) (w.heap.size + 1 + 1 + 1 + 1) W0.heap.size len cap A f hlen W0 (by omega) (Nat.le_refl _) hcS hT0) belowK_t (belowK_b (Nat.le_refl _)) (Below.refl _ _) (fun _ => rfl)
    (fun pre W => Xc.none' c h pre ∧ Below W0.heap.size W0 W)
    (fun code pre W => (code = .ret ∧ (∃ ini last, pre = ini ++ [last] ∧ Xc.none' c h ini ∧ Xc.fits c h last.2 ∧ Has W (w.heap.size + 1 + 1) #[.int .i64 last.2.c] 3 ∧ Has W (w.heap.size + 1 + 1 + 1) #[.int .i64 0] 30)) ∧ Below w.heap.size w W)
    (OwnFrom.and (ownFrom_pure _ _) (ownFrom_below (Nat.le_refl _) (Nat.le_refl _)))
    (fun code => OwnFrom.and (Own.from (fun s X Y row hs hg hr => by
      obtain ⟨hc, ini, last, e1, e2, e3, e4, e5⟩ := hs
      exact ⟨hc, ini, last, e1, e2, e3, has_own (β := Unit) _ _ _ () X Y row e4 hg hr, has_own (β := Unit) _ _ _ () X Y row e5 hg hr⟩) _) (ownFrom_below (Nat.le_refl _) hB0.size))
    ⟨(fun p hp => by simp at hp), Below.refl _ _⟩
    (fun x a' W => ∃ Bx, W0.heap.size ≤ Bx ∧ Has W Bx #[.int .i64 x.2.a, .int .i64 x.2.b, .int .i64 x.2.c] 24 ∧ a' = { tmps := #[.slice A len cap, .int .i64 c, .int .i64 h, undef, .pointer (some ⟨w.heap.size, 0, none⟩), .pointer (some ⟨w.heap.size + 1, 0, none⟩), .pointer (some ⟨w.heap.size + 1 + 1, 0, none⟩), .pointer (some ⟨w.heap.size + 1 + 1 + 1, 0, none⟩), undef, .pointer (some ⟨Bx, 0, none⟩), .int .i64 h, .bool true, .bool false, .int .i64 c, .bool false, .slice A len cap, .func (.func 51) #[] #[.pointer (some ⟨w.heap.size + 1 + 1 + 1 + 1, 0, none⟩)], .int .i64 x.1, .agg #[.int .i64 x.2.a, .int .i64 x.2.b, .int .i64 x.2.c], undef, undef, undef, undef, undef, undef, undef, undef, undef, undef, undef, undef], defers := [] })
    (fun x a' _ X Y row hs hg hr => by
      obtain ⟨Bx, g1, g2, g3⟩ := hs
      exact ⟨Bx, g1, has_own (β := Unit) _ _ _ () X Y row g2 hg (fun r e => (hr r e).2), g3⟩)
    ?assign ?body ?done ?stop
  case assign =>
    rintro l pre x W K ⟨hp, hB⟩ hK
    unfold ncs
    gi_wp2
    exact hK _ _ ((KeepsOthers.alloc _ _).from _) ((Below.refl _ W).alloc hB.size _) ⟨hp, hB.alloc hB.size _⟩ ⟨W.heap.size, hB.size, Has.new W _ _, rfl⟩
  case body =>
    rintro l pre ⟨xi, xa, xb, xc⟩ a' W hl _ ⟨hp, hB⟩ ⟨Bx, hBx, bX, rfl⟩ hlt
    simp only at bX ⊢
    obtain ⟨x0, x1, x2⟩ := bX.rules
    obtain ⟨c0, c1, c2⟩ := (HC.out.below hB HC.out.lt).rules
    obtain ⟨d0, d1, d2⟩ := (HH.out.below hB HH.out.lt).rules
    have bR := HR.out.below hB HR.out.lt
    have bE := HE.out.below hB HE.out.lt
    obtain ⟨r0, r1, r2⟩ := bR.rules
    obtain ⟨e0, e1, e2⟩ := bE.rules
    have HBR := Lib.hid bR
    have HBE := Lib.hid bE
    clear bR bE
    by_cases m1 : xa = c
    · have t1 : (xa == c) = true := by rw [beq_iff_eq]; exact m1
      by_cases m2 : xb ≤ h
      · have t2 : decide (xb ≤ h) = true := decide_eq_true m2
        have HM : Hid (Xc.fits c h ⟨xa, xb, xc⟩) := Lib.hid ⟨m1, m2⟩
        clear m1
        gi_wp2
        exact ⟨((KeepsOthers.setCell _ _ _).trans (KeepsOthers.setCell _ _ _)).from _, ⟨rfl, pre, _, rfl, hp, HM.out, (HBR.out.put 0 _).far (by simp only; omega) _, (HBE.out.far (by simp only; omega) _).put 0 _⟩, ((hB0.trans (hB.mono hB0.size)).setCell (by simp only; omega) _).setCell (by simp only; omega) _⟩
      · have t2 : decide (xb ≤ h) = false := decide_eq_false m2
        have HM : Hid (¬ Xc.fits c h ⟨xa, xb, xc⟩) := Lib.hid fun k => m2 k.2
        clear m1
        gi_wp2
        exact ⟨KeepsFrom.refl _ _, Below.refl _ _, Xc.none_snoc hp HM.out, hB⟩
    · have t1 : (xa == c) = false := by rw [beq_eq_false_iff_ne]; exact m1
      have HM : Hid (¬ Xc.fits c h ⟨xa, xb, xc⟩) := Lib.hid fun k => m1 k.1
      clear m1
      gi_wp2
      exact ⟨KeepsFrom.refl _ _, Below.refl _ _, Xc.none_snoc hp HM.out, hB⟩
  case done =>
    rintro D ys W hD rfl ⟨hp, hB⟩ hK
    have bR := HR.out.below hB HR.out.lt
    have bE := HE.out.below hB HE.out.lt
    obtain ⟨r0, r1, r2⟩ := bR.rules
    obtain ⟨e0, e1, e2⟩ := bE.rules
    gi_wp2
    have hK' := ((KeepsOthers.setCell W ⟨w.heap.size + 1 + 1, 0, none⟩ (.int .i64 0)).trans (KeepsOthers.setCell _ ⟨w.heap.size + 1 + 1 + 1, 0, none⟩ (.int .i64 15))).same D _ hK rfl
    refine ⟨by simp, .inl ⟨_, _, rfl, run_takeDeferred hK', ?_⟩⟩
    have q1 := has_own (β := Unit) _ _ _ () _ _ _ ((bR.put 0 (.int .i64 0)).far (p := ⟨w.heap.size + 1 + 1 + 1, 0, none⟩) (by simp only; omega) (.int .i64 15)) (grownBy_putObj' _ D (.deferred none)) (fun r e => by cases e; exact ⟨_, hK', rfl⟩)
    have q2 := has_own (β := Unit) _ _ _ () _ _ _ ((bE.far (p := ⟨w.heap.size + 1 + 1, 0, none⟩) (by simp only; omega) (.int .i64 0)).put 0 (.int .i64 15)) (grownBy_putObj' _ D (.deferred none)) (fun r e => by cases e; exact ⟨_, hK', rfl⟩)
    have k1 := q1.cell 0
    have k2 := q2.cell 0
    simp only [List.setIfInBounds_toArray, List.set_cons_zero, List.getElem?_toArray, List.getElem?_cons_zero] at k1 k2
    refine ⟨.tuple #[.int .i64 0, .int .i64 15], ?_, by rw [Xc.st_all hp], (((hB0.trans (hB.mono hB0.size)).setCell (by simp only; omega) _).setCell (by simp only; omega) _).trans (belowK_b (w := w) (Nat.le_refl _) _ D _ _ (by omega) hK' rfl rfl)⟩
    simp [results, Try.f32, go_sem, k1, k2]
  case stop =>
    rintro D code pre W hD ⟨k, hk, rfl⟩ ⟨⟨rfl, ini, last, e1, e2, e3, bR, bE⟩, hB⟩ hK
    gi_wp2
    refine ⟨by simp, .inl ⟨_, _, rfl, run_takeDeferred hK, ?_⟩⟩
    have q1 := has_own (β := Unit) _ _ _ () _ _ _ bR (grownBy_putObj' _ D (.deferred none)) (fun r e => by cases e; exact ⟨_, hK, rfl⟩)
    have q2 := has_own (β := Unit) _ _ _ () _ _ _ bE (grownBy_putObj' _ D (.deferred none)) (fun r e => by cases e; exact ⟨_, hK, rfl⟩)
    have k1 := q1.cell 0
    have k2 := q2.cell 0
    simp only [List.getElem?_toArray, List.getElem?_cons_zero] at k1 k2
    refine ⟨.tuple #[.int .i64 last.2.c, .int .i64 0], ?_, by rw [Xc.st_hit hk e1 e2 e3], hB.trans (belowK_b (w := w) (Nat.le_refl _) W D _ _ (by omega) hK rfl rfl)⟩
    simp [results, Try.f32, go_sem, k1, k2]

set_option maxRecDepth 100000 in
set_option maxHeartbeats 4000000 in
theorem at1_early (F : Fence) (n : Nat) (h3 : F.fn 32) (h4 : F.fn 28) (hro : F.round = none) (hn : 6 ≤ n) (b : Bool)
    (A : Option Addr) (len cap : Nat) (c h : Int) (w : World) (hb : b = false ∨ c = 0) (CH : ∀ (W : World), CallsIn F (n - 1) Try.prog 28 #[.int .i64 h] W fun e w' => e = .returned (.bool b) ∧ W = w') :
    CallsIn F n Try.prog 32 #[.slice A len cap, .int .i64 c, .int .i64 h] w (PairPost (if b = false then (0, 1) else (1000000, 0)) w) := by
  have h1 : 1 ≤ n := by omega
  refine callsIn_of_wp_marks Try.func32 rfl h3 ?_ hro
  simp only [Try.ntmps32, List.size_toArray, List.length_cons, List.length_nil, Nat.reduceAdd, Nat.reduceSub, Array.replicate_succ, Array.replicate_zero, List.push_toArray, List.append_toArray, List.nil_append, List.cons_append]
  cases b with
  | false =>
    gi_wp2_with (first | (gi_at_call 28; refine (CH _).mono ?_; rintro e w' ⟨rfl, rfl⟩))
    refine ⟨.tuple #[.int .i64 0, .int .i64 1], ?_, rfl, (by (repeat' (first | (with_reducible exact Below.refl _ _) | (with_reducible refine Below.setCell ?_ ?_ _) | (with_reducible refine below_drewN ?_ _) | (with_reducible refine Below.drew ?_) | (with_reducible refine Below.alloc ?_ ?_ _))) <;> (first | omega | (simp <;> omega)))⟩
    simp [results, Try.f32, go_sem]
  | true =>
    obtain rfl : c = 0 := by
      rcases hb with e | e
      · cases e
      · exact e
    gi_wp2_with (first | (gi_at_call 28; refine (CH _).mono ?_; rintro e w' ⟨rfl, rfl⟩))
    refine ⟨.tuple #[.int .i64 1000000, .int .i64 0], ?_, rfl, (by (repeat' (first | (with_reducible exact Below.refl _ _) | (with_reducible refine Below.setCell ?_ ?_ _) | (with_reducible refine below_drewN ?_ _) | (with_reducible refine Below.drew ?_) | (with_reducible refine Below.alloc ?_ ?_ _))) <;> (first | omega | (simp <;> omega)))⟩
    simp [results, Try.f32, go_sem]

theorem at1_any (A : Option Addr) (len cap : Nat) (f : Nat → T3) (c h : Int) (w : World) (hlen : len ≤ 1000) (hT : Trips w w.heap.size A len f) :
    Calls Try.prog 32 #[.slice A len cap, .int .i64 c, .int .i64 h] w (PairPost (Xc.at1 len f c h) w) := by
  refine (callsIn_wide (n := 6)).1 ?_
  by_cases hh : Xc.hourP h
  · by_cases hc : c = 0
    · rw [Xc.at1, if_neg (fun x => x hh), if_pos hc]
      exact at1_early Fence.wide 6 trivial trivial rfl (Nat.le_refl _) true A len cap c h w (.inr hc) fun W => callsIn_wide.2 (hv_yes hh W)
    · rw [Xc.at1, if_neg (fun x => x hh), if_neg hc]
      exact at1_in Fence.wide 6 trivial trivial trivial trivial rfl (Nat.le_refl _) (fun h W hh => callsIn_wide.2 (hv_yes hh W)) A len cap f c h w hlen hT hh (by rw [beq_eq_false_iff_ne]; exact hc)
  · rw [Xc.at1, if_pos hh]
    exact at1_early Fence.wide 6 trivial trivial rfl (Nat.le_refl _) false A len cap c h w (.inl rfl) fun W => callsIn_wide.2 (hv_no hh W)
end Go.Proofs.Ytojpjglkdmmfjaa
