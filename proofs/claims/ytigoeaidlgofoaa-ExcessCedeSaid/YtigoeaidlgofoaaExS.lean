/- excess.Stability and the reference's: the factor of a retention that is indexed by payments. -/
import Derived.Test.YtigoeaidlgofoaaExAt
import Derived.Test.YtigoeaidlgofoaaAm
namespace Go.Proofs.Ytigoeaidlgofoaa
open Go.RowKit

namespace Ex
theorem psum_abs (f : Nat → Int) (M : Int) (i : Nat) (h : ∀ j, -M ≤ f j ∧ f j ≤ M) : -(M * i) ≤ psum f i ∧ psum f i ≤ M * i := by
  induction i with
  | zero => simp [psum]
  | succ i ih =>
    have h2 := h i
    rw [psum, show M * ((i + 1 : Nat) : Int) = M * i + M by rw [Int.natCast_succ, Int.mul_add, Int.mul_one]]
    omega
theorem defl_abs (base : Int) (n : Nat) (f g p q : Nat → Int) (i : Nat) (hi : i ≤ 64) : -1125899906842624 ≤ defl base n f g p q i ∧ defl base n f g p q i ≤ 1125899906842624 := by
  have h := psum_abs (fun j => (dmd base n f g p q j).1) 17592186044416 i fun j => by
    have := Am.md_valid (q j) base (at' n f g (p j)).1 4
    exact ⟨this.1, this.2.1⟩
  unfold defl
  omega
theorem sc_amount {base : Int} {n : Nat} {f g p q : Nat → Int} {i : Nat} (h : ¬ (0 ≤ q i ∧ q i ≤ 1073741824)) : sc base n f g p q i = 1 := if_pos h
theorem sc_at {base : Int} {n : Nat} {f g p q : Nat → Int} {i : Nat} {v e : Int} (h : 0 ≤ q i ∧ q i ≤ 1073741824) (ha : at' n f g (p i) = (v, e)) (he : e ≠ 0) : sc base n f g p q i = e := by
  rw [sc, if_neg (fun c => c h), ha, if_pos he]
theorem sc_md {base : Int} {n : Nat} {f g p q : Nat → Int} {i : Nat} {v d e : Int} (h : 0 ≤ q i ∧ q i ≤ 1073741824) (ha : at' n f g (p i) = (v, 0)) (hd : Am.md (q i) base v 4 = (d, e)) : sc base n f g p q i = e := by
  rw [sc, if_neg (fun c => c h), ha, if_neg (by simp), dmd, ha, hd]
theorem defl_succ {base : Int} {n : Nat} {f g p q : Nat → Int} {i : Nat} {v d e : Int} (ha : at' n f g (p i) = (v, 0)) (hd : Am.md (q i) base v 4 = (d, e)) : defl base n f g p q (i + 1) = defl base n f g p q i + d := by
  rw [defl, psum, ← defl, dmd, ha, hd]
end Ex

set_option maxHeartbeats 2000000 in
theorem exstab_any (base : Int) (A : Option Addr) (n c : Nat) (f g : Nat → Int) (A2 : Option Addr) (m c2 : Nat) (p q : Nat → Int) (w : World) (hn : n ≤ 9223372036854775807) (hm : m ≤ 9223372036854775807)
    (hp : Pairs w w.heap.size A n f g) (hq : Pairs w w.heap.size A2 m p q) :
    Calls Try.prog 29 #[.int .i64 base, .slice A n c, .slice A2 m c2] w (PairPost (Ex.stab base n f g m p q) w) := by
  have CV : Hid (Calls Try.prog 27 #[.slice A n c] w (IntPost (Ex.ierr n f g) w)) := Lib.hid (exvalidate_any A n c f g w hn hp)
  obtain ⟨r, hr⟩ : ∃ r, Ex.ierr n f g = r := ⟨_, rfl⟩
  rw [hr] at CV
  have CAT : Hid (∀ (h : Int) (W : World), Below w.heap.size w W → Calls Try.prog 23 #[.slice A n c, .int .i64 h] W (PairPost (Ex.at' n f g h) W)) :=
    Lib.hid fun h W hb => exat_any A n c f g h W hn ((hp.below hb).mono hb.size)
  by_cases h0 : r = 0
  · subst h0
    by_cases hb : 1 ≤ base ∧ base ≤ 1000000000
    · by_cases hl : 64 < m
      · have HA : Hid (Ex.stab base n f g m p q = (0, 4)) := Lib.hid (by rw [Ex.stab, if_neg (by rw [hr]; simp), if_neg (fun c => c hb), if_pos hl])
        rw [HA.out]
        obtain ⟨hb0, hb1⟩ := hb
        clear HA hp hq hr CAT
        go_enter Try.func29, Try.ntmps29
        go_wp2_with fail
        refine CV.out.mono ?_
        rintro e w1 ⟨rfl, hb⟩
        have HB := Lib.hid hb
        clear hb
        go_wp2_with (first | (go_at_call 40; refine (exwithin_any _ _ _ _).mono ?_; rintro e w' ⟨rfl, rfl⟩))
        go_ret2
        exact ⟨rfl, HB.out⟩
      · have hl' : m ≤ 64 := by omega
        have HA : Hid (Ex.stab base n f g m p q = if scan (Ex.sc base n f g p q) m 0 ≠ 0 then (0, scan (Ex.sc base n f g p q) m 0)
            else if Ex.defl base n f g p q m = 0 then (0, 2) else if 17592186044416 < Ex.defl base n f g p q m then (0, 3)
            else Am.md 1000000 (Ex.psum q m) (Ex.defl base n f g p q m) 4) := Lib.hid (by rw [Ex.stab, if_neg (by rw [hr]; simp), if_neg (fun c => c hb), if_neg hl])
        obtain ⟨R, hR⟩ : ∃ R, Ex.stab base n f g m p q = R := ⟨_, rfl⟩
        rw [hR] at HA ⊢
        obtain ⟨S, hS⟩ : ∃ S, scan (Ex.sc base n f g p q) (m - 0) 0 = S := ⟨_, rfl⟩
        have HS0 := Lib.hid hS
        have hS' : scan (Ex.sc base n f g p q) m 0 = S := hS
        rw [hS'] at HA
        obtain ⟨hb0, hb1⟩ := hb
        have HQ := Lib.hid hq
        clear hp hq hr hR hS hS' hl
        go_enter Try.func29, Try.ntmps29
        go_wp2_with fail
        refine CV.out.mono ?_
        rintro e w1 ⟨rfl, hb⟩
        have HB := Lib.hid hb
        clear hb
        go_wp2_with (first | (go_at_call 40; refine (exwithin_any _ _ _ _).mono ?_; rintro e w' ⟨rfl, rfl⟩))
        go_loopw [9, 10, 12, 13, 14, 15, 29] (fun a d _ _ _ _ i wr => ∃ k : Nat, k ≤ m ∧ i = .int .i64 k ∧ a = .int .i64 (Ex.psum q k) ∧ d = .int .i64 (Ex.defl base n f g p q k) ∧ Hid (scan (Ex.sc base n f g p q) (m - k) k = S) ∧ Hid (0 ≤ Ex.psum q k ∧ Ex.psum q k ≤ 1073741824 * k) ∧ Hid (Below w.heap.size w wr)) (fun _ _ _ _ _ _ i _ => m - (intOf i).toNat)
        case atStart => exact ⟨0, Nat.zero_le _, rfl, rfl, rfl, HS0, Lib.hid (by simp [Ex.psum]), HB⟩
        case round =>
          obtain ⟨k, hk, rfl, rfl, rfl, HS, HP, HB'⟩ := hrel
          have hs := HB'.out.size
          obtain ⟨P, hP⟩ : ∃ P, Ex.psum q k = P := ⟨_, rfl⟩
          obtain ⟨D, hD⟩ : ∃ D, Ex.defl base n f g p q k = D := ⟨_, rfl⟩
          have hP0 := HP.out
          have hD0 := Ex.defl_abs base n f g p q k (by omega)
          rw [hP] at hP0 ⊢
          rw [hD] at hD0 ⊢
          have hP1 : 0 ≤ P ∧ P ≤ 68719476736 := by omega
          obtain ⟨hP2, hP3⟩ := hP1
          obtain ⟨hD1, hD2⟩ := hD0
          have HPe := Lib.hid hP
          have HDe := Lib.hid hD
          by_cases hlt : k < m
          · obtain ⟨b, o, rfl, had, hc0, hc1⟩ := ((HQ.out.below HB'.out).mono hs).get hlt
            obtain ⟨x, hx⟩ : ∃ x, p k = x := ⟨_, rfl⟩
            obtain ⟨y, hy⟩ : ∃ y, q k = y := ⟨_, rfl⟩
            rw [hx] at hc0
            rw [hy] at hc1
            by_cases ha : 0 ≤ y ∧ y ≤ 1073741824
            · have ha' : 0 ≤ q k ∧ q k ≤ 1073741824 := by rw [hy]; exact ha
              obtain ⟨⟨v, ea⟩, hat⟩ : ∃ v, Ex.at' n f g x = v := ⟨_, rfl⟩
              have hat' : Ex.at' n f g (p k) = (v, ea) := by rw [hx]; exact hat
              have CA : Hid (∀ W : World, Below w.heap.size w W → Calls Try.prog 23 #[.slice A n c, .int .i64 x] W (PairPost (v, ea) W)) := Lib.hid fun W hb => by have := CAT.out x W hb; rw [hat] at this; exact this
              obtain ⟨ha0, ha1⟩ := ha
              by_cases he : ea = 0
              · subst he
                obtain ⟨⟨d, ed⟩, hmd⟩ : ∃ d, Am.md y base v 4 = d := ⟨_, rfl⟩
                have hmd' : Am.md (q k) base v 4 = (d, ed) := by rw [hy]; exact hmd
                have hdv := Am.md_valid y base v 4
                rw [hmd] at hdv
                obtain ⟨hd1, hd2, _, _⟩ := hdv
                simp only at hd1 hd2
                have CM : Hid (∀ W : World, Calls Try.prog 43 #[.int .i64 y, .int .i64 base, .int .i64 v, .int .i64 4] W fun e w' => e = .returned (.tuple #[.int .i64 d, .int .i64 ed]) ∧ ∃ n, w' = W.drewN n) := Lib.hid fun W => by
                  have := muldiv_any y base v 4 W
                  rw [hmd] at this
                  exact this
                by_cases hed : ed = 0
                · subst hed
                  have HG : Hid (scan (Ex.sc base n f g p q) (m - (k + 1)) (k + 1) = S) := Lib.hid (by rw [← scan_go _ hlt (Ex.sc_md ha' hat' hmd')]; exact HS.out)
                  have HP' : Hid (Ex.psum q (k + 1) = P + y) := Lib.hid (by rw [Ex.psum, hP, hy])
                  have HD' : Hid (Ex.defl base n f g p q (k + 1) = D + d) := Lib.hid (by rw [Ex.defl_succ hat' hmd', hD])
                  have HBd : Hid (0 ≤ P + y ∧ P + y ≤ 1073741824 * ((k + 1 : Nat) : Int)) := Lib.hid (by omega)
                  clear hx hy hat hat' hmd hmd' HPe HDe hP hD HP CAT hP0
                  go_wp2_with (first | (go_at_call 40; refine (exwithin_any _ _ _ _).mono ?_; rintro e w' ⟨rfl, rfl⟩))
                  refine (CA.out _ ?_).mono ?_
                  · exact HB'.out.alloc hs _
                  rintro e w2 ⟨rfl, hb⟩
                  have HX := Lib.hid ((Has.new wr _ _).below hb (by simp))
                  have HB2 : Hid (Below w.heap.size w w2) := Lib.hid ((HB'.out.alloc hs _).trans (hb.mono (by simp; omega)))
                  clear hb
                  obtain ⟨x0, x1, x2⟩ := HX.out.rules
                  go_wp2_with fail
                  refine (CM.out _).mono ?_
                  rintro e w3 ⟨rfl, nq, rfl⟩
                  go_wp2_with fail
                  go_roundw
                  case rel => exact ⟨k + 1, by omega, by go_num, by rw [HP'.out], by rw [HD'.out], HG, by rw [HP'.out]; exact HBd, Lib.hid (below_drewN HB2.out _)⟩
                  case measure => simp [intOf]; omega
                · have HG : Hid (ed = S) := Lib.hid (by rw [← HS.out, scan_stop _ hlt (by rw [Ex.sc_md ha' hat' hmd']; exact hed), Ex.sc_md ha' hat' hmd'])
                  have hed' : (ed != 0) = true := by rw [bne_iff_ne]; exact hed
                  have HR : Hid (R = (0, ed)) := Lib.hid (by rw [HA.out, ← HG.out, if_pos hed])
                  clear hx hy hat hat' hmd hmd' HPe HDe hP hD HP CAT hP0 hed
                  go_wp2_with (first | (go_at_call 40; refine (exwithin_any _ _ _ _).mono ?_; rintro e w' ⟨rfl, rfl⟩))
                  refine (CA.out _ ?_).mono ?_
                  · exact HB'.out.alloc hs _
                  rintro e w2 ⟨rfl, hb⟩
                  have HX := Lib.hid ((Has.new wr _ _).below hb (by simp))
                  have HB2 : Hid (Below w.heap.size w w2) := Lib.hid ((HB'.out.alloc hs _).trans (hb.mono (by simp; omega)))
                  clear hb
                  obtain ⟨x0, x1, x2⟩ := HX.out.rules
                  go_wp2_with fail
                  refine (CM.out _).mono ?_
                  rintro e w3 ⟨rfl, nq, rfl⟩
                  go_wp2_with fail
                  go_ret2
                  exact ⟨by rw [HR.out]; rfl, below_drewN HB2.out _⟩
              · have HG : Hid (ea = S) := Lib.hid (by rw [← HS.out, scan_stop _ hlt (by rw [Ex.sc_at ha' hat' he]; exact he), Ex.sc_at ha' hat' he])
                have he' : (ea != 0) = true := by rw [bne_iff_ne]; exact he
                have HR : Hid (R = (0, ea)) := Lib.hid (by rw [HA.out, ← HG.out, if_pos he])
                clear hx hy hat hat' HPe HDe hP hD HP CAT hP0 he
                go_wp2_with (first | (go_at_call 40; refine (exwithin_any _ _ _ _).mono ?_; rintro e w' ⟨rfl, rfl⟩))
                refine (CA.out _ ?_).mono ?_
                · exact HB'.out.alloc hs _
                rintro e w2 ⟨rfl, hb⟩
                have HB2 : Hid (Below w.heap.size w w2) := Lib.hid ((HB'.out.alloc hs _).trans (hb.mono (by simp; omega)))
                clear hb
                go_wp2_with fail
                go_ret2
                exact ⟨by rw [HR.out]; rfl, HB2.out⟩
            · have ha' : ¬ (0 ≤ q k ∧ q k ≤ 1073741824) := by rw [hy]; exact ha
              have HG : Hid ((1 : Int) = S) := Lib.hid (by rw [← HS.out, scan_stop _ hlt (by rw [Ex.sc_amount ha']; omega), Ex.sc_amount ha'])
              have hd : decide (0 ≤ y ∧ y ≤ 1073741824) = false := by rw [decide_eq_false_iff_not]; exact ha
              have HR : Hid (R = (0, 1)) := Lib.hid (by rw [HA.out, ← HG.out, if_pos (by omega)])
              clear hx hy HPe HDe hP hD HP CAT hP0 ha ha'
              go_wp2_with (first | (go_at_call 40; refine (exwithin_any _ _ _ _).mono ?_; rintro e w' ⟨rfl, rfl⟩))
              go_ret2
              exact ⟨by rw [HR.out]; rfl, HB'.out.alloc hs _⟩
          · have hkm : k = m := by omega
            subst hkm
            have hS0 : S = 0 := by rw [← HS.out, scan_end]
            by_cases hz : D = 0
            · have HR : Hid (R = (0, 2)) := Lib.hid (by rw [HA.out, if_neg (by rw [hS0]; simp), if_pos (by rw [hD]; exact hz)])
              have hz' : (D == 0) = true := by rw [beq_iff_eq]; exact hz
              clear HPe HDe hP hD HP CAT hP0 hS0 hz
              go_wp2_with fail
              go_ret2
              exact ⟨by rw [HR.out]; rfl, HB'.out⟩
            · have hz' : (D == 0) = false := by rw [beq_eq_false_iff_ne]; exact hz
              by_cases hbig : 17592186044416 < D
              · have HR : Hid (R = (0, 3)) := Lib.hid (by rw [HA.out, if_neg (by rw [hS0]; simp), if_neg (by rw [hD]; exact hz), if_pos (by rw [hD]; exact hbig)])
                clear HPe HDe hP hD HP CAT hP0 hS0 hz
                go_wp2_with fail
                go_ret2
                exact ⟨by rw [HR.out]; rfl, HB'.out⟩
              · have HR : Hid (R = Am.md 1000000 P D 4) := Lib.hid (by rw [HA.out, if_neg (by rw [hS0]; simp), if_neg (by rw [hD]; exact hz), if_neg (by rw [hD]; exact hbig), hP, hD])
                have CM := Lib.hid (fun W => muldiv_any 1000000 P D 4 W)
                clear HPe HDe hP hD HP CAT hP0 hS0 hz
                rw [← HR.out] at CM
                go_wp2_with fail
                refine (CM.out _).mono ?_
                rintro e w2 ⟨rfl, nq, rfl⟩
                go_wp2_with fail
                go_ret2
                exact ⟨rfl, below_drewN HB'.out _⟩
    · have HA : Hid (Ex.stab base n f g m p q = (0, 1)) := Lib.hid (by rw [Ex.stab, if_neg (by rw [hr]; simp), if_pos (show ¬ Ex.idxP base from hb)])
      have hd : decide (1 ≤ base ∧ base ≤ 1000000000) = false := by rw [decide_eq_false_iff_not]; exact hb
      rw [HA.out]
      clear HA hb hp hq hr CAT
      go_enter Try.func29, Try.ntmps29
      go_wp2_with fail
      refine CV.out.mono ?_
      rintro e w1 ⟨rfl, hb⟩
      have HB := Lib.hid hb
      clear hb
      go_wp2_with (first | (go_at_call 40; refine (exwithin_any _ _ _ _).mono ?_; rintro e w' ⟨rfl, rfl⟩))
      go_ret2
      exact ⟨rfl, HB.out⟩
  · have HA : Hid (Ex.stab base n f g m p q = (0, r)) := Lib.hid (by rw [Ex.stab, if_pos (by rw [hr]; exact h0), hr])
    have hr0 : (r != 0) = true := by rw [bne_iff_ne]; exact h0
    rw [HA.out]
    clear HA hp hq hr h0 CAT
    go_enter Try.func29, Try.ntmps29
    go_wp2_with fail
    refine CV.out.mono ?_
    rintro e w1 ⟨rfl, hb⟩
    have HB := Lib.hid hb
    clear hb
    go_wp2_with fail
    go_ret2
    exact ⟨rfl, HB.out⟩

set_option maxHeartbeats 2000000 in
theorem rstab_any (base : Int) (A : Option Addr) (n c : Nat) (f g : Nat → Int) (A2 : Option Addr) (m c2 : Nat) (p q : Nat → Int) (w : World) (hn : n ≤ 9223372036854775807) (hm : m ≤ 9223372036854775807)
    (hp : Pairs w w.heap.size A n f g) (hq : Pairs w w.heap.size A2 m p q) :
    Calls Try.prog 30 #[.int .i64 base, .slice A n c, .slice A2 m c2] w (PairPost (Ex.stab base n f g m p q) w) := by
  have CV : Hid (Calls Try.prog 28 #[.slice A n c] w (IntPost (Ex.ierr n f g) w)) := Lib.hid (rindices_any A n c f g w hn hp)
  obtain ⟨r, hr⟩ : ∃ r, Ex.ierr n f g = r := ⟨_, rfl⟩
  rw [hr] at CV
  have CAT : Hid (∀ (h : Int) (W : World), Below w.heap.size w W → Calls Try.prog 24 #[.slice A n c, .int .i64 h] W (PairPost (Ex.at' n f g h) W)) :=
    Lib.hid fun h W hb => rindexat_any A n c f g h W hn ((hp.below hb).mono hb.size)
  by_cases h0 : r = 0
  · subst h0
    by_cases hb : 1 ≤ base ∧ base ≤ 1000000000
    · by_cases hl : 64 < m
      · have HA : Hid (Ex.stab base n f g m p q = (0, 4)) := Lib.hid (by rw [Ex.stab, if_neg (by rw [hr]; simp), if_neg (fun c => c hb), if_pos hl])
        rw [HA.out]
        obtain ⟨hb0, hb1⟩ := hb
        clear HA hp hq hr CAT
        go_enter Try.func30, Try.ntmps30
        go_wp2_with fail
        refine CV.out.mono ?_
        rintro e w1 ⟨rfl, hb⟩
        have HB := Lib.hid hb
        clear hb
        go_wp2_with fail
        go_ret2
        exact ⟨rfl, HB.out⟩
      · have hl' : m ≤ 64 := by omega
        have HA : Hid (Ex.stab base n f g m p q = if scan (Ex.sc base n f g p q) m 0 ≠ 0 then (0, scan (Ex.sc base n f g p q) m 0)
            else if Ex.defl base n f g p q m = 0 then (0, 2) else if 17592186044416 < Ex.defl base n f g p q m then (0, 3)
            else Am.md 1000000 (Ex.psum q m) (Ex.defl base n f g p q m) 4) := Lib.hid (by rw [Ex.stab, if_neg (by rw [hr]; simp), if_neg (fun c => c hb), if_neg hl])
        obtain ⟨R, hR⟩ : ∃ R, Ex.stab base n f g m p q = R := ⟨_, rfl⟩
        rw [hR] at HA ⊢
        obtain ⟨S, hS⟩ : ∃ S, scan (Ex.sc base n f g p q) (m - 0) 0 = S := ⟨_, rfl⟩
        have HS0 := Lib.hid hS
        have hS' : scan (Ex.sc base n f g p q) m 0 = S := hS
        rw [hS'] at HA
        obtain ⟨hb0, hb1⟩ := hb
        have HQ := Lib.hid hq
        clear hp hq hr hR hS hS' hl
        go_enter Try.func30, Try.ntmps30
        go_wp2_with fail
        refine CV.out.mono ?_
        rintro e w1 ⟨rfl, hb⟩
        have HB := Lib.hid hb
        clear hb
        go_wp2_with fail
        go_loopw [9, 10, 11, 12, 13, 14, 15] (fun a d i _ _ _ _ wr => ∃ k : Nat, k ≤ m ∧ i = .int .i64 k ∧ a = .int .i64 (Ex.psum q k) ∧ d = .int .i64 (Ex.defl base n f g p q k) ∧ Hid (scan (Ex.sc base n f g p q) (m - k) k = S) ∧ Hid (0 ≤ Ex.psum q k ∧ Ex.psum q k ≤ 1073741824 * k) ∧ Hid (Below w.heap.size w wr)) (fun _ _ i _ _ _ _ _ => m - (intOf i).toNat)
        case atStart => exact ⟨0, Nat.zero_le _, rfl, rfl, rfl, HS0, Lib.hid (by simp [Ex.psum]), HB⟩
        case round =>
          obtain ⟨k, hk, rfl, rfl, rfl, HS, HP, HB'⟩ := hrel
          have hs := HB'.out.size
          obtain ⟨P, hP⟩ : ∃ P, Ex.psum q k = P := ⟨_, rfl⟩
          obtain ⟨D, hD⟩ : ∃ D, Ex.defl base n f g p q k = D := ⟨_, rfl⟩
          have hP0 := HP.out
          have hD0 := Ex.defl_abs base n f g p q k (by omega)
          rw [hP] at hP0 ⊢
          rw [hD] at hD0 ⊢
          have hP1 : 0 ≤ P ∧ P ≤ 68719476736 := by omega
          obtain ⟨hP2, hP3⟩ := hP1
          obtain ⟨hD1, hD2⟩ := hD0
          have HPe := Lib.hid hP
          have HDe := Lib.hid hD
          by_cases hlt : k < m
          · obtain ⟨b, o, rfl, had, hc0, hc1⟩ := ((HQ.out.below HB'.out).mono hs).get hlt
            obtain ⟨x, hx⟩ : ∃ x, p k = x := ⟨_, rfl⟩
            obtain ⟨y, hy⟩ : ∃ y, q k = y := ⟨_, rfl⟩
            rw [hx] at hc0
            rw [hy] at hc1
            have HX := Lib.hid hx
            have HY := Lib.hid hy
            by_cases ha : 0 ≤ y ∧ y ≤ 1073741824
            · have ha' : 0 ≤ q k ∧ q k ≤ 1073741824 := by rw [hy]; exact ha
              obtain ⟨⟨v, ea⟩, hat⟩ : ∃ v, Ex.at' n f g x = v := ⟨_, rfl⟩
              have hat' : Ex.at' n f g (p k) = (v, ea) := by rw [hx]; exact hat
              have CA : Hid (∀ W : World, Below w.heap.size w W → Calls Try.prog 24 #[.slice A n c, .int .i64 x] W (PairPost (v, ea) W)) := Lib.hid fun W hb => by have := CAT.out x W hb; rw [hat] at this; exact this
              obtain ⟨ha0, ha1⟩ := ha
              by_cases he : ea = 0
              · subst he
                obtain ⟨⟨d, ed⟩, hmd⟩ : ∃ d, Am.md y base v 4 = d := ⟨_, rfl⟩
                have hmd' : Am.md (q k) base v 4 = (d, ed) := by rw [hy]; exact hmd
                have hdv := Am.md_valid y base v 4
                rw [hmd] at hdv
                obtain ⟨hd1, hd2, _, _⟩ := hdv
                simp only at hd1 hd2
                have CM : Hid (∀ W : World, Calls Try.prog 44 #[.int .i64 y, .int .i64 base, .int .i64 v, .int .i64 4] W fun e w' => e = .returned (.tuple #[.int .i64 d, .int .i64 ed]) ∧ ∃ n, w' = W.drewN n) := Lib.hid fun W => by
                  have := rmuldiv_any y base v 4 W
                  rw [hmd] at this
                  exact this
                by_cases hed : ed = 0
                · subst hed
                  have HG : Hid (scan (Ex.sc base n f g p q) (m - (k + 1)) (k + 1) = S) := Lib.hid (by rw [← scan_go _ hlt (Ex.sc_md ha' hat' hmd')]; exact HS.out)
                  have HP' : Hid (Ex.psum q (k + 1) = P + y) := Lib.hid (by rw [Ex.psum, hP, hy])
                  have HD' : Hid (Ex.defl base n f g p q (k + 1) = D + d) := Lib.hid (by rw [Ex.defl_succ hat' hmd', hD])
                  have HBd : Hid (0 ≤ P + y ∧ P + y ≤ 1073741824 * ((k + 1 : Nat) : Int)) := Lib.hid (by omega)
                  clear hx hy hat hat' hmd hmd' HPe HDe hP hD HP CAT hP0
                  go_wp2_with fail
                  refine (CA.out _ ?_).mono ?_
                  · exact HB'.out
                  rintro e w2 ⟨rfl, hb⟩
                  have HB2 : Hid (Below w.heap.size w w2) := Lib.hid (HB'.out.trans (hb.mono hs))
                  clear hb
                  obtain ⟨b', o', e', had', hc0', hc1'⟩ := ((HQ.out.below HB2.out).mono HB2.out.size).get hlt
                  simp only [Option.some.injEq, Addr.mk.injEq, and_true] at e'
                  obtain ⟨rfl, rfl⟩ := e'
                  rw [HX.out] at hc0'
                  rw [HY.out] at hc1'
                  go_wp2_with fail
                  refine (CM.out _).mono ?_
                  rintro e w3 ⟨rfl, nq, rfl⟩
                  go_wp2_with fail
                  go_roundw
                  case rel => exact ⟨k + 1, by omega, by go_num, by rw [HP'.out], by rw [HD'.out], HG, by rw [HP'.out]; exact HBd, Lib.hid (below_drewN HB2.out _)⟩
                  case measure => simp [intOf]; omega
                · have HG : Hid (ed = S) := Lib.hid (by rw [← HS.out, scan_stop _ hlt (by rw [Ex.sc_md ha' hat' hmd']; exact hed), Ex.sc_md ha' hat' hmd'])
                  have hed' : (ed != 0) = true := by rw [bne_iff_ne]; exact hed
                  have HR : Hid (R = (0, ed)) := Lib.hid (by rw [HA.out, ← HG.out, if_pos hed])
                  clear hx hy hat hat' hmd hmd' HPe HDe hP hD HP CAT hP0 hed
                  go_wp2_with fail
                  refine (CA.out _ ?_).mono ?_
                  · exact HB'.out
                  rintro e w2 ⟨rfl, hb⟩
                  have HB2 : Hid (Below w.heap.size w w2) := Lib.hid (HB'.out.trans (hb.mono hs))
                  clear hb
                  obtain ⟨b', o', e', had', hc0', hc1'⟩ := ((HQ.out.below HB2.out).mono HB2.out.size).get hlt
                  simp only [Option.some.injEq, Addr.mk.injEq, and_true] at e'
                  obtain ⟨rfl, rfl⟩ := e'
                  rw [HX.out] at hc0'
                  rw [HY.out] at hc1'
                  go_wp2_with fail
                  refine (CM.out _).mono ?_
                  rintro e w3 ⟨rfl, nq, rfl⟩
                  go_wp2_with fail
                  go_ret2
                  exact ⟨by rw [HR.out]; rfl, below_drewN HB2.out _⟩
              · have HG : Hid (ea = S) := Lib.hid (by rw [← HS.out, scan_stop _ hlt (by rw [Ex.sc_at ha' hat' he]; exact he), Ex.sc_at ha' hat' he])
                have he' : (ea != 0) = true := by rw [bne_iff_ne]; exact he
                have HR : Hid (R = (0, ea)) := Lib.hid (by rw [HA.out, ← HG.out, if_pos he])
                clear hx hy hat hat' HPe HDe hP hD HP CAT hP0 he
                go_wp2_with fail
                refine (CA.out _ ?_).mono ?_
                · exact HB'.out
                rintro e w2 ⟨rfl, hb⟩
                have HB2 : Hid (Below w.heap.size w w2) := Lib.hid (HB'.out.trans (hb.mono hs))
                clear hb
                go_wp2_with fail
                go_ret2
                exact ⟨by rw [HR.out]; rfl, HB2.out⟩
            · have ha' : ¬ (0 ≤ q k ∧ q k ≤ 1073741824) := by rw [hy]; exact ha
              have HG : Hid ((1 : Int) = S) := Lib.hid (by rw [← HS.out, scan_stop _ hlt (by rw [Ex.sc_amount ha']; omega), Ex.sc_amount ha'])
              have hd : y < 0 ∨ 0 ≤ y ∧ 1073741824 < y := by omega
              have HR : Hid (R = (0, 1)) := Lib.hid (by rw [HA.out, ← HG.out, if_pos (by omega)])
              clear hx hy HPe HDe hP hD HP CAT hP0 ha ha'
              rcases hd with hd | ⟨hd, hd2⟩
              all_goals
                go_wp2_with fail
                go_ret2
                exact ⟨by rw [HR.out]; rfl, HB'.out⟩
          · have hkm : k = m := by omega
            subst hkm
            have hS0 : S = 0 := by rw [← HS.out, scan_end]
            by_cases hz : D = 0
            · have HR : Hid (R = (0, 2)) := Lib.hid (by rw [HA.out, if_neg (by rw [hS0]; simp), if_pos (by rw [hD]; exact hz)])
              have hz' : (D == 0) = true := by rw [beq_iff_eq]; exact hz
              clear HPe HDe hP hD HP CAT hP0 hS0 hz
              go_wp2_with fail
              go_ret2
              exact ⟨by rw [HR.out]; rfl, HB'.out⟩
            · have hz' : (D == 0) = false := by rw [beq_eq_false_iff_ne]; exact hz
              by_cases hbig : 17592186044416 < D
              · have HR : Hid (R = (0, 3)) := Lib.hid (by rw [HA.out, if_neg (by rw [hS0]; simp), if_neg (by rw [hD]; exact hz), if_pos (by rw [hD]; exact hbig)])
                clear HPe HDe hP hD HP CAT hP0 hS0 hz
                go_wp2_with fail
                go_ret2
                exact ⟨by rw [HR.out]; rfl, HB'.out⟩
              · have HR : Hid (R = Am.md 1000000 P D 4) := Lib.hid (by rw [HA.out, if_neg (by rw [hS0]; simp), if_neg (by rw [hD]; exact hz), if_neg (by rw [hD]; exact hbig), hP, hD])
                have CM := Lib.hid (fun W => rmuldiv_any 1000000 P D 4 W)
                clear HPe HDe hP hD HP CAT hP0 hS0 hz
                rw [← HR.out] at CM
                go_wp2_with fail
                refine (CM.out _).mono ?_
                rintro e w2 ⟨rfl, nq, rfl⟩
                go_wp2_with fail
                go_ret2
                exact ⟨rfl, below_drewN HB'.out _⟩
    · have HA : Hid (Ex.stab base n f g m p q = (0, 1)) := Lib.hid (by rw [Ex.stab, if_neg (by rw [hr]; simp), if_pos (show ¬ Ex.idxP base from hb)])
      have hd : base < 1 ∨ 1 ≤ base ∧ 1000000000 < base := by omega
      rw [HA.out]
      clear HA hb hp hq hr CAT
      rcases hd with hd | ⟨hd, hd2⟩
      all_goals
        go_enter Try.func30, Try.ntmps30
        go_wp2_with fail
        refine CV.out.mono ?_
        rintro e w1 ⟨rfl, hb⟩
        have HB := Lib.hid hb
        clear hb
        go_wp2_with fail
        go_ret2
        exact ⟨rfl, HB.out⟩
  · have HA : Hid (Ex.stab base n f g m p q = (0, r)) := Lib.hid (by rw [Ex.stab, if_pos (by rw [hr]; exact h0), hr])
    have hr0 : (r != 0) = true := by rw [bne_iff_ne]; exact h0
    rw [HA.out]
    clear HA hp hq hr h0 CAT
    go_enter Try.func30, Try.ntmps30
    go_wp2_with fail
    refine CV.out.mono ?_
    rintro e w1 ⟨rfl, hb⟩
    have HB := Lib.hid hb
    clear hb
    go_wp2_with fail
    go_ret2
    exact ⟨rfl, HB.out⟩
end Go.Proofs.Ytigoeaidlgofoaa
