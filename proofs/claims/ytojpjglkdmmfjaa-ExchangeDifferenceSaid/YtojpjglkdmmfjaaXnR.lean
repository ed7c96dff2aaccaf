/- The reference's Normalize and SameCash. -/
import Derived.Test.YtojpjglkdmmfjaaXnMath
import Derived.Test.YtojpjglkdmmfjaaXcA
import Derived.Test.YtojpjglkdmmfjaaLeav
import Derived.Test.YtojpjglkdmmfjaaAmWalks
import Derived.Deep.AppendLies
import Derived.KernelRfl
namespace Go.Proofs.Ytojpjglkdmmfjaa
open Go.RowKit
set_option linter.unusedVariables false

set_option maxRecDepth 100000 in
theorem cash_info : (Try.prog.info? 37).map (fun i => (i.zero, i.size, i.bytes)) = some (some (.agg #[.int .i64 0, .int .i64 0]), 2, 16) := by kernel_rfl

set_option maxHeartbeats 400000 in
theorem rvalid_any (a : Int) (w : World) : Calls Try.prog 38 #[.int .i64 a] w fun e w' => e = .returned (.bool (Am.validB a)) ∧ w = w' := by
  go_enter Try.func38, Try.ntmps38
  go_wp2
  · go_ret
    refine ⟨?_, rfl⟩
    have h : -17592186044416 ≤ a := by assumption
    simp [Am.validB, h]
  · go_ret
    refine ⟨?_, rfl⟩
    have h : a < -17592186044416 := by assumption
    have h' : Am.validB a = false := (Am.validB_false a).2 (.inl h)
    rw [h']
    rfl
theorem rval_is {a : Int} {b : Bool} (h : Am.validB a = b) (w : World) : Calls Try.prog 38 #[.int .i64 a] w fun e w' => e = .returned (.bool b) ∧ w = w' := by
  have := rvalid_any a w
  rwa [h] at this
theorem val_is {a : Int} {b : Bool} (h : Am.validB a = b) (w : World) : Calls Try.prog 35 #[.int .i64 a] w fun e w' => e = .returned (.bool b) ∧ w = w' := by
  have := valid_any a w
  rwa [h] at this

/-- a balance and an error: with an error no balance -/
def NormPost (er : Int) (l : List (Int × Int)) (w : World) (e : Ending) (w' : World) : Prop :=
  ∃ (A : Option Addr) (m cap : Nat), e = .returned (.tuple #[.slice A m cap, .int .i64 er]) ∧ Below w.heap.size w w' ∧ (m = if er = 0 then l.length else 0) ∧ ((A ≠ none → ∃ g, A = some ⟨g, 0, none⟩ ∧ w.heap.size ≤ g) ∧ (A = none → m = 0 ∧ cap = 0)) ∧ (er = 0 → Pairs w' w'.heap.size A m (fstOf l) (sndOf l))
theorem NormPost.fail {er : Int} {l : List (Int × Int)} {w w' : World} (h : er ≠ 0) (hb : Below w.heap.size w w') : NormPost er l w (.returned (.tuple #[.slice none 0 0, .int .i64 er])) w' :=
  ⟨none, 0, 0, rfl, hb, by rw [if_neg h], ⟨fun c => absurd rfl c, fun _ => ⟨rfl, rfl⟩⟩, fun h0 => absurd h0 h⟩
theorem NormPost.of_own {l : List (Int × Int)} {w w' : World} {A : Option Addr} {m cap : Nat} (hb : Below w.heap.size w w') (ho : w'.ownsRow w.heap.size 37 2 (.slice A m cap) l.length (cellsOf l)) (hm : m = l.length) : NormPost 0 l w (.returned (.tuple #[.slice A m cap, .int .i64 0])) w' := by
  subst hm
  refine ⟨A, _, cap, rfl, hb, by rw [if_pos rfl], ⟨fun hA => ?_, fun hA => ?_⟩, fun _ => Pairs.of_own ho⟩
  · rcases ho.2 with ⟨h, _⟩ | ⟨g, cap', cur, hv, hg, _⟩
    · injection h with h; exact absurd h hA
    · injection hv with hv
      exact ⟨g, hv, hg⟩
  · rcases ho.2 with ⟨h, _⟩ | ⟨g, cap', cur, hv, hg, _⟩
    · injection h with _ h1 h2; exact ⟨h1, h2⟩
    · injection hv with hv; rw [hA] at hv; cases hv

theorem Xn.val_bound {a : Int} (h : Am.validB a = true) : -17592186044416 ≤ a ∧ a ≤ 17592186044416 := (Am.validB_iff a).1 h

set_option maxRecDepth 100000 in
set_option maxHeartbeats 4000000 in
theorem rnorm_any (A : Option Addr) (n c : Nat) (f g : Nat → Int) (w : World) (hn : n ≤ 1000) (hp : Pairs w w.heap.size A n f g) :
    Calls Try.prog 20 #[.slice A n c] w (NormPost (Xn.nerr f g n) (Xn.bal f g n) w) := by
  have hn0 : (0 : Int) ≤ n := by omega
  have hn1 : (n : Int) ≤ 1000 := by omega
  obtain ⟨S, hS⟩ : ∃ S, scan (Xn.cc f g) (n - 0) 0 = S := ⟨_, rfl⟩
  have HNE : Hid (Xn.nerr f g n = if S ≠ 0 then S else if Xn.badB f g n (Xn.cus 16) = true then 3 else 0) := Lib.hid (by rw [Xn.nerr, if_neg (by omega), show scan (Xn.cc f g) n 0 = S from hS])
  have HS1 := Lib.hid hS
  have HP := Lib.hid hp
  obtain ⟨i0, hi0, hz0, hz1, hz2⟩ := info_parts cash_info
  have HI := Lib.hid hi0
  have HZ0 := Lib.hid hz0
  have HZ1 := Lib.hid hz1
  have HZ2 := Lib.hid hz2
  clear hp hS hi0 hz0 hz1 hz2
  go_enter Try.func20, Try.ntmps20
  go_wp2_with fail
  go_loop [4] (fun i => ∃ k : Nat, k ≤ n ∧ i = .int .i64 k ∧ Hid (scan (Xn.cc f g) (n - k) k = S)) (fun i => n - (intOf i).toNat)
  case atStart => exact ⟨0, Nat.zero_le _, rfl, HS1⟩
  case round =>
    obtain ⟨k, hk, rfl, HS⟩ := hrel
    by_cases hlt : k < n
    · obtain ⟨b, o, rfl, had, hc0, hc1⟩ := HP.out.get hlt
      have hk0 : (0 : Int) ≤ k := by omega
      have hk1 : (k : Int) < n := by omega
      obtain ⟨x, hx⟩ : ∃ x, f k = x := ⟨_, rfl⟩
      obtain ⟨y, hy⟩ : ∃ x, g k = x := ⟨_, rfl⟩
      rw [hx] at hc0
      rw [hy] at hc1
      by_cases g1 : Xc.curP x
      · have HG1 := Lib.hid g1
        cases g2 : Am.validB y with
        | true =>
          have HG2 := Lib.hid g2
          have HG : Hid (scan (Xn.cc f g) (n - (k + 1)) (k + 1) = S) := Lib.hid (by rw [← scan_go _ hlt (by rw [Xn.cc, hx, hy, if_neg (fun c => c g1), if_neg (by rw [g2]; simp)])]; exact HS.out)
          clear g1 g2 hx hy HS
          go_wp2_with fail
          refine (rcu_yes HG1.out _).mono ?_
          rintro e w' ⟨rfl, rfl⟩
          go_wp2_with fail
          refine (rval_is HG2.out _).mono ?_
          rintro e w' ⟨rfl, rfl⟩
          go_wp2_with fail
          go_round
          case rel => exact ⟨k + 1, by omega, by go_num, HG⟩
          case measure => simp [intOf]; omega
        | false =>
          have HG2 := Lib.hid g2
          have he : Xn.cc f g k = 1 := by rw [Xn.cc, hx, hy, if_neg (fun c => c g1), if_pos g2]
          have HG : Hid (S = 1) := Lib.hid (by rw [← HS.out, scan_stop _ hlt (by rw [he]; omega), he])
          clear g1 g2 hx hy HS he
          go_wp2_with fail
          refine (rcu_yes HG1.out _).mono ?_
          rintro e w' ⟨rfl, rfl⟩
          go_wp2_with fail
          refine (rval_is HG2.out _).mono ?_
          rintro e w' ⟨rfl, rfl⟩
          go_wp2_with fail
          go_ret2
          exact by rw [HNE.out, HG.out, if_pos (by omega)]; exact NormPost.fail (by omega) (Below.refl _ _)
      · have HG1 := Lib.hid g1
        have he : Xn.cc f g k = 15 := by rw [Xn.cc, hx, if_pos g1]
        have HG : Hid (S = 15) := Lib.hid (by rw [← HS.out, scan_stop _ hlt (by rw [he]; omega), he])
        clear g1 hx hy HS he
        go_wp2_with fail
        refine (rcu_no HG1.out _).mono ?_
        rintro e w' ⟨rfl, rfl⟩
        go_wp2_with fail
        go_ret2
        exact by rw [HNE.out, HG.out, if_pos (by omega)]; exact NormPost.fail (by omega) (Below.refl _ _)
    · obtain rfl : k = n := by omega
      have HS0 : Hid (S = 0) := Lib.hid (by rw [← HS.out, scan_end])
      have HF := Lib.hid (Xn.cc_fine (f := f) (g := g) (n := k) (by have := HS1.out; rw [Nat.sub_zero] at this; rw [this]; exact HS0.out))
      clear HS
      go_wp2_with fail
      go_loopw [5, 6, 7, 8] (fun v ci _ _ wr => ∃ cN : Nat, cN ≤ 16 ∧ ci = .int .i64 cN ∧ Hid (Xn.badB f g k (Xn.cus cN) = false) ∧ Hid (wr.ownsRow w.heap.size 37 2 v (Xn.bals f g k (Xn.cus cN)).length (cellsOf (Xn.bals f g k (Xn.cus cN)))) ∧ Hid (Below w.heap.size w wr)) (fun _ ci _ _ _ => 16 - (intOf ci).toNat)
      case atStart => exact ⟨0, by omega, rfl, Lib.hid rfl, Lib.hid ⟨rfl, .inl ⟨rfl, rfl⟩⟩, Lib.hid (Below.refl _ _)⟩
      case round =>
        obtain ⟨cN, hc16, rfl, HBD, HO, HB⟩ := hrel
        by_cases hcl : cN < 16
        · have hc0' : (cN : Int) ≤ 15 := by omega
          go_wp2_with fail
          go_loop [7, 8] (fun t i => ∃ j : Nat, j ≤ k ∧ i = .int .i64 j ∧ t = .int .i64 (Xn.tot f g cN j)) (fun _ i => k - (intOf i).toNat)
          case atStart => exact ⟨0, Nat.zero_le _, rfl, rfl⟩
          case round =>
            obtain ⟨j, hj, rfl, rfl⟩ := hrel
            by_cases hjl : j < k
            · obtain ⟨b, o, rfl, had, hc0, hc1⟩ := ((HP.out.below HB.out).mono HB.out.size).get hjl
              have hj0 : (0 : Int) ≤ j := by omega
              have hj1 : (j : Int) < k := by omega
              have htb := Xn.tot_bound (f := f) (g := g) (M := 17592186044416) (c := cN) j (fun i hi => Xn.val_bound (HF.out i (by omega)).2)
              have hgb := Xn.val_bound (HF.out j hjl).2
              have hst : Xn.tot f g cN (j + 1) = if f j = cN then Xn.tot f g cN j + g j else Xn.tot f g cN j := rfl
              obtain ⟨x, hx⟩ : ∃ x, f j = x := ⟨_, rfl⟩
              obtain ⟨y, hy⟩ : ∃ x, g j = x := ⟨_, rfl⟩
              obtain ⟨s, hs⟩ : ∃ x, Xn.tot f g cN j = x := ⟨_, rfl⟩
              rw [hx] at hc0
              rw [hy] at hc1 hgb
              rw [hs] at htb ⊢
              rw [hx, hy, hs] at hst
              have hsb : -17592186044416000 ≤ s ∧ s ≤ 17592186044416000 := by omega
              obtain ⟨sb0, sb1⟩ := hsb
              obtain ⟨yb0, yb1⟩ := hgb
              by_cases m1 : x = (cN : Int)
              · have t1 : (x == (cN : Int)) = true := by rw [beq_iff_eq]; exact m1
                have HG : Hid (Xn.tot f g cN (j + 1) = s + y) := Lib.hid (by rw [hst, if_pos m1])
                clear hst hs hx hy m1 htb
                go_wp2_with fail
                go_round
                case rel => exact ⟨j + 1, by omega, by go_num, by rw [HG.out]⟩
                case measure => simp [intOf]; omega
              · have t1 : (x == (cN : Int)) = false := by rw [beq_eq_false_iff_ne]; exact m1
                have HG : Hid (Xn.tot f g cN (j + 1) = s) := Lib.hid (by rw [hst, if_neg m1])
                clear hst hs hx hy m1 htb
                go_wp2_with fail
                go_round
                case rel => exact ⟨j + 1, by omega, by go_num, by rw [HG.out]⟩
                case measure => simp [intOf]; omega
            · obtain rfl : j = k := by omega
              have hbs := Xn.bals_snoc (f := f) (g := g) j (Xn.cus cN) cN
              have hbd := Xn.badB_snoc (f := f) (g := g) j (Xn.cus cN) cN
              rw [← Xn.cus_succ] at hbs hbd
              rw [HBD.out, Bool.false_or] at hbd
              have hbl := Xn.bals_length (f := f) (g := g) j (Xn.cus cN)
              rw [Xn.cus_length] at hbl
              obtain ⟨s, hs⟩ : ∃ x, Xn.tot f g cN j = x := ⟨_, rfl⟩
              rw [hs] at hbs hbd ⊢
              obtain ⟨L, hL⟩ : ∃ L, Xn.bals f g j (Xn.cus cN) = L := ⟨_, rfl⟩
              rw [hL] at HO hbs hbl
              have HBS := Lib.hid hbs
              cases hv : Am.validB s with
              | false =>
                have HV := Lib.hid hv
                rw [hv] at hbd
                have HBB : Hid (Xn.badB f g j (Xn.cus 16) = true) := Lib.hid (by
                  unfold Xn.badB
                  rw [List.any_eq_true]
                  exact ⟨cN, Xn.mem_cus.2 ⟨by omega, by omega⟩, by rw [hs, hv]; rfl⟩)
                clear hv hbd hbs hs hL HBS
                go_wp2_with fail
                refine (rval_is HV.out _).mono ?_
                rintro e w' ⟨rfl, rfl⟩
                go_wp2_with fail
                go_ret2
                exact by rw [HNE.out, HS0.out, if_neg (fun c => c rfl), if_pos HBB.out]; exact NormPost.fail (by omega) HB.out
              | true =>
                have HV := Lib.hid hv
                rw [hv] at hbd
                have HBD2 : Hid (Xn.badB f g j (Xn.cus (cN + 1)) = false) := Lib.hid (by rw [hbd]; rfl)
                clear hv hbd hbs hs hL HBD
                by_cases hz : s = 0
                · subst hz
                  rw [if_pos rfl, List.append_nil] at HBS
                  go_wp2_with fail
                  refine (rval_is HV.out _).mono ?_
                  rintro e w' ⟨rfl, rfl⟩
                  go_wp2_with fail
                  go_roundw
                  case rel => exact ⟨cN + 1, by omega, by go_num, HBD2, by rw [HBS.out]; exact HO, HB⟩
                  case measure => simp [intOf]; omega
                · have hz' : (s != 0) = true := by rw [bne_iff_ne]; exact hz
                  rw [if_neg hz] at HBS
                  have HP2 : Hid (cellsOf (L ++ [((cN : Int), s)]) = cellsOf L ++ [.int .i64 cN, .int .i64 s]) := Lib.hid (cellsOf_snoc L (cN, s))
                  have hs := HB.out.size
                  clear hz
                  go_wp2_with fail
                  refine (rval_is HV.out _).mono ?_
                  rintro e w' ⟨rfl, rfl⟩
                  go_wp2_with ((at_builtin; refine wpList_append_lies _ rfl _ _ 42 rfl w.heap.size 37 i0 _ 2 16 Try.underlying42 HI.out HZ0.out HZ1.out HZ2.out rfl (by omega) u5 L.length (cellsOf L) rfl (HO.out.alloc _) ⟨wr.heap.size, 0, none⟩ 1 1 [.int .i64 cN, .int .i64 s] rfl rfl (World.news_of_block (cs := #[.int .i64 cN, .int .i64 s]) (t := 37) (fr := (0, 0)) (heap_alloc_new wr _)) (by simp [Value.oneCell']) (by omega) (by unfold maxLen; omega) (by omega) (by simp; omega) (wr.heap.size + 1) (by simp) ?_; intro gg cap w4 hown hgrow hat hlt; have HO2 : Hid (w4.ownsRow w.heap.size 37 2 (.slice (some ⟨gg, 0, none⟩) (L.length + 1) cap) (L ++ [((cN : Int), s)]).length (cellsOf (L ++ [((cN : Int), s)]))) := Lib.hid (by rw [HP2.out]; simpa using hown); have HB2 : Hid (Below w.heap.size w w4) := Lib.hid ((HB.out.alloc hs _).grown hgrow (by simp; omega) fun q hq => by obtain ⟨_, _, hg⟩ := own_form HO.out hq; exact hg); clear hown hgrow hat))
                  go_roundw
                  case rel => exact ⟨cN + 1, by omega, by go_num, HBD2, by rw [HBS.out]; exact HO2, HB2⟩
                  case measure => simp [intOf]; omega
        · obtain rfl : cN = 16 := by omega
          obtain ⟨A', m', cap, rfl, hm'⟩ : ∃ A' m' cap, u5 = .slice A' m' cap ∧ m' = (Xn.bals f g k (Xn.cus 16)).length := by
            rcases HO.out.2 with ⟨hv, hv0⟩ | ⟨g', cap, cur, hv, _⟩
            · exact ⟨none, 0, 0, hv, hv0.symm⟩
            · exact ⟨_, _, cap, hv, rfl⟩
          have HMM := Lib.hid hm'
          clear hm'
          go_wp2_with fail
          go_ret2
          exact by rw [HNE.out, HS0.out, if_neg (fun c => c rfl), if_neg (by rw [HBD.out]; simp)]; exact NormPost.of_own HB.out HO.out HMM.out
end Go.Proofs.Ytojpjglkdmmfjaa
