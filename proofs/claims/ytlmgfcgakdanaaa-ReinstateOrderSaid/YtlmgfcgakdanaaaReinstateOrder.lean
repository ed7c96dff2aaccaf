/- The law ReinstateOrder: what is recovered in all does not depend on the order of the events. No condition. -/
import Derived.Test.YtlmgfcgakdanaaaRows
import Derived.Test.YtlmgfcgakdanaaaRead
import Derived.Test.YtlmgfcgakdanaaaLwO
import Derived.Test.YtlmgfcgakdanaaaArgs
import Derived.WalkKit
import Derived.ProofKit
import Derived.OpenShut
import Derived.ShutString
import Derived.ChangeOld
import Derived.Below
namespace Go.Proofs.Ytlmgfcgakdanaaa.reinstateOrder
open Go.ChangeShapes Go.WideShapes Go.ChangeAt Go.RowKit
set_option linter.unusedVariables false

theorem own : ownKnob Try.prog.godebug = none := by kernel_rfl
theorem laidOut : laidOutB Try.prog = true := by kernel_rfl



set_option maxHeartbeats 4000000 in
set_option maxRecDepth 100000 in
theorem walk (v0 : Value) (v1 : Value) (w : World) (h0 : Rd24 w [v0]) (h1 : Rd24 w [v1]) :
    Calls Try.prog 8 #[v0, v1] w fun e w' => e = .returned (.bool true) ∧ Below w.heap.size w w' := by
  obtain ⟨Ad, nd, cd, fd, rfl, hnd, _, _, hd, _⟩ := rd_ints h0
  obtain ⟨Ao, no, co, fo, rfl, hno, _, _, ho, _⟩ := rd_ints h1
  have HDD := Lib.hid hd
  have HOO := Lib.hid ho
  have HTI := Lib.hid ty_info
  clear h0 h1 hd ho
  go_enter Try.func8, Try.ntmps8
  go_wp2_with fail
  refine (m2new_any Ad nd cd fd w hnd HDD.out).mono ?_
  rintro e w1 ⟨rfl, hb, hdk⟩
  have HB := Lib.hid hb
  have HD := Lib.hid hdk
  clear hb hdk HDD
  go_wp2_with fail
  refine (dexcess_any _ _ HD.out).mono ?_
  rintro e w2 ⟨t, rfl, hx, hin, hov, hk2, hd2'⟩
  have HX0 := Lib.hid hx
  have HIN := Lib.hid hin
  replace HB : Hid (Below w.heap.size w w2) := Lib.hid (HB.out.trans (hk2.below (Nat.le_refl _) HB.out.size))
  clear hx hin hov hk2 hd2' HD
  go_upto_region 2 with ((refine wpList_store_has ?_ 27 (.tmp 5) (.tmp 23) ?_ w2.heap.size ?_ t.cells ?_ _ _ (Has.new w2 _ _) HTI.out ?_ ?_ ?_; rfl; rfl; rfl; rfl; rfl; rfl; intro w3 hh3 hl3))
  try simp only [Act.put]
  have hb3 : Below w2.heap.size w2 w3 := ((Below.refl _ _).alloc (Nat.le_refl _) _).trans (hl3.below (fun k hk => by omega) (by simp))
  have HS : Hid (RnSt w w2.heap.size t w3) := Lib.hid ⟨hh3, HIN.out.below hb3, HB.out.trans (hb3.mono HB.out.size), HB.out.size⟩
  obtain ⟨T, hT⟩ : ∃ T, w2.heap.size = T := ⟨_, rfl⟩
  rw [hT] at HS ⊢
  clear hT hb3 hh3 hl3 HB HIN
  go_wp2_with fail
  refine (events28_any Ao no co fo w3 hno (HS.out.nums HOO.out)).mono ?_
  rintro e w4 ⟨gh, gl, m, eh, el, rfl, hm12, hn1, hn2, bh, bl, hb⟩
  replace HS := Lib.hid (HS.out.next hb)
  have HN1 := Lib.hid hn1
  have HN2 := Lib.hid hn2
  clear hb hn1 hn2
  try simp only
  have hae : t.aerr m eh m el = 0 := Ty.aerr_small HX0.out hm12 bh bl
  obtain ⟨U, hU⟩ : ∃ U, t.uses eh el = U := ⟨_, rfl⟩
  have C1 : Hid (∀ W, t.In W W.heap.size → Nums W W.heap.size (some ⟨gh, 0, none⟩) m eh → Nums W W.heap.size (some ⟨gl, 0, none⟩) m el → Calls Try.prog 21 #[.agg t.cells, .slice (some ⟨gh, 0, none⟩) m m, .slice (some ⟨gl, 0, none⟩) m m] W (FinePost m U W)) := Lib.hid fun W a b c => by
    rw [← hU]; exact (reapply_any t _ m m eh _ m m el W a (by omega) (by omega) b c).mono fun _ _ h => h.good hae
  have HBH := Lib.hid bh
  have HBL := Lib.hid bl
  have HUP : Hid (∀ k : Nat, k ≤ m → (0 ≤ Ex.psum (fun i => (U i).a) k ∧ Ex.psum (fun i => (U i).a) k ≤ 17592186044416) ∧ (0 ≤ Ex.psum (fun i => (U i).b) k ∧ Ex.psum (fun i => (U i).b) k ≤ 17592186044416) ∧ (0 ≤ Ex.psum (fun i => (U i).c) k ∧ Ex.psum (fun i => (U i).c) k ≤ 17592186044416)) := Lib.hid fun k hk => by
    rw [← hU]
    exact Ty.part_bounds HX0.out (fun i hi => (bl i hi).1) hk
  have HU := Lib.hid hU
  clear hae hU bh bl
  go_wp2_with ((refine wpList_load_has ?_ 27 (.tmp 5) ?_ T ?_ _ _ _ HS.out.box Try.underlying27 ?_ HTI.out ?_; rfl; rfl; rfl; rfl))
  refine (C1.out _ HS.out.inn HN1.out HN2.out).mono ?_
  rintro e x1 ⟨g, c, rfl, htr, hb⟩
  have HT1 := Lib.hid htr
  replace HN1 := Lib.hid ((HN1.out.below hb).mono hb.size)
  replace HN2 := Lib.hid ((HN2.out.below hb).mono hb.size)
  replace HS := Lib.hid (HS.out.next hb)
  clear htr hb C1
  try simp only
  go_wp2_with fail
  refine (m2new_any Ao no co fo x1 hno (HS.out.nums HOO.out)).mono ?_
  rintro e x2 ⟨rfl, hb, hd⟩
  have HO : Hid (OrdSt w T t x1.heap.size gh gl g m eh el U x2) := Lib.hid ⟨HS.out.next hb, HS.out.lt, HN1.out.below hb, HN2.out.below hb, HT1.out.below hb⟩
  have HD := Lib.hid hd
  obtain ⟨b, hbb⟩ : ∃ b, x1.heap.size = b := ⟨_, rfl⟩
  rw [hbb] at HO HD ⊢
  clear hb hd hbb HS HN1 HN2 HT1 HOO
  obtain ⟨i0, hi0, hz0, hz1, hz2⟩ := info_parts i64_info
  have HI := Lib.hid hi0
  have HZ0 := Lib.hid hz0
  have HZ1 := Lib.hid hz1
  have HZ2 := Lib.hid hz2
  clear hi0 hz0 hz1 hz2
  go_wp2_with fail
  have hs2 : b ≤ x2.heap.size := Nat.le_of_lt HD.out.lt
  obtain ⟨W1, hmk, ho, hg⟩ := run_make_full (P := Try.prog) x2.drew b 24 3 i0 (.int .i64 0) 1 Try.underlying24 HI.out HZ0.out HZ1.out .i64 .i64 m (by rw [HZ2.out]; omega) (by unfold maxLen; omega) hs2
  have hb1 : Below x2.heap.size x2 W1 := (Below.drew (Below.refl x2.heap.size x2)).grown hg (Nat.le_refl _) (fun _ h => by cases h)
  obtain ⟨W2, hmk2, ho2, hg2⟩ := run_make_full (P := Try.prog) W1 b 24 3 i0 (.int .i64 0) 1 Try.underlying24 HI.out HZ0.out HZ1.out .i64 .i64 m (by rw [HZ2.out]; omega) (by unfold maxLen; omega) (Nat.le_trans hs2 hb1.size)
  have hb2 : Below W1.heap.size W1 W2 := (Below.refl W1.heap.size W1).grown hg2 (Nat.le_refl _) (fun _ h => by cases h)
  obtain ⟨p0, hr1⟩ := Row.some_made ho
  obtain ⟨q0, hr2⟩ := Row.some_made ho2
  have hlt1 := hr1.lt
  have HR1 : Hid (Row W2 x2.heap.size m 3 p0) := Lib.hid (Row.below hr1 hb2 hlt1)
  have HR2 : Hid (Row W2 W1.heap.size m 3 q0) := Lib.hid hr2
  have hne : x2.heap.size < W1.heap.size := hlt1
  have hbl := HD.out.lt
  have hb12 : Below x2.heap.size x2 W2 := hb1.trans (hb2.mono hb1.size)
  have HO2 : Hid (OrdSt w T t b gh gl g m eh el U W2) := Lib.hid (HO.out.over hb12 hs2)
  have HD2 : Hid (IsDeck W2 b) := Lib.hid ((HD.out.below hb1 hbl).below hb2 (Nat.lt_of_lt_of_le hbl hb1.size))
  clear ho ho2 hg hg2 hr1 hr2 hb1 hb2 hb12 hlt1 HO HD
  go_cut [11, 12] (fun u v wx => ∃ (gp gq : Nat) (p q : Nat → Value), u = .slice (some ⟨gp, 0, none⟩) m m ∧ v = .slice (some ⟨gq, 0, none⟩) m m ∧ gp ≠ gq ∧ b < gp ∧ b < gq ∧ Hid (Row wx gp m 3 p) ∧ Hid (Row wx gq m 3 q) ∧ Hid (OrdSt w T t b gh gl g m eh el U wx) ∧ Hid (IsDeck wx b))
  case first =>
    go_region
    all_goals
      go_wp2_with fail
      go_meet
    · exact ⟨x2.heap.size, W1.heap.size, p0, q0, rfl, rfl, by omega, by omega, by omega, HR1, HR2, HO2, HD2⟩
    · exact ⟨W1.heap.size, x2.heap.size, q0, p0, rfl, rfl, by omega, by omega, by omega, HR2, HR1, HO2, HD2⟩
  case rest =>
    obtain ⟨gp, gq, p, q, rfl, rfl, hpq, hbp, hbq, HR1, HR2, HO, HD⟩ := hcut
    clear hmk hmk2 hne hs2 HO2 HD2 hbl
    go_wp2_with fail
    refine (dorder_any b m _ HD.out (by omega)).mono ?_
    rintro e x3 ⟨G, P, rfl, hG, hnu, hpm, hk2, hd2⟩
    have hdl := HD.out.lt
    have hne1 : G ≠ gp := by have := HR1.out.lt; omega
    have hne2 : G ≠ gq := by have := HR2.out.lt; omega
    replace HR1 := Lib.hid (HR1.out.keeps hk2 (by omega))
    replace HR2 := Lib.hid (HR2.out.keeps hk2 (by omega))
    replace HO := Lib.hid (HO.out.over (hk2.below (Nat.le_refl b) (Nat.le_of_lt hdl)) (Nat.le_refl b))
    have HNU := Lib.hid hnu
    have HPM := Lib.hid hpm
    clear hG hnu hpm hk2 hd2 HD hdl
    go_wp2_with fail
    go_loopw [13, 14, 49] (fun _ _ i wr => ∃ k : Nat, k ≤ m ∧ i = .int .i64 k ∧ (∃ p q : Nat → Value, Hid (Row wr gp m 3 p) ∧ Hid (Row wr gq m 3 q) ∧ Hid (Got p (fun j => eh (P j).toNat) k) ∧ Hid (Got q (fun j => el (P j).toNat) k)) ∧ Hid (OrdSt w T t b gh gl g m eh el U wr) ∧ Hid (Nums wr wr.heap.size (some ⟨G, 0, none⟩) m P)) (fun _ _ i _ => m - (intOf i).toNat)
    case atStart => exact ⟨0, Nat.zero_le _, rfl, ⟨p, q, HR1, HR2, Lib.hid fun _ h => absurd h (by omega), Lib.hid fun _ h => absurd h (by omega)⟩, HO, HNU⟩
    case round =>
      clear HR1 HR2 HO HNU
      clear p q
      obtain ⟨k, hk, rfl, ⟨p, q, HR1, HR2, HG1, HG2⟩, HO, HNU⟩ := hrel
      by_cases hlt : k < m
      · have hk0 : (0 : Int) ≤ k := by omega
        have hk1 : (k : Int) < m := by omega
        have hpb := HPM.out.bd k hlt
        obtain ⟨b', o', e', _, q0⟩ := HNU.out.get hlt
        injection e' with e'
        injection e' with e1 e2 _
        subst e1 e2
        rw [show (0 : Nat) + k = k by omega] at q0
        have hg1 : (fun j => eh (P j).toNat) k = eh (P k).toNat := rfl
        have hg2 : (fun j => el (P j).toNat) k = el (P k).toNat := rfl
        obtain ⟨pk, hpk⟩ : ∃ pk : Nat, P k = pk := ⟨(P k).toNat, by omega⟩
        rw [hpk] at q0 hpb hg1 hg2
        rw [Int.toNat_natCast] at hg1 hg2
        obtain ⟨hpb0, hpb1⟩ := hpb
        have hpm : pk < m := by omega
        obtain ⟨b2, o2, e2, hl1, q1⟩ := HO.out.n1.get hpm
        injection e2 with e2
        injection e2 with e1 e2 _
        subst e1 e2
        obtain ⟨b3, o3, e3, hl2, q2⟩ := HO.out.n2.get hpm
        injection e3 with e3
        injection e3 with e1 e2 _
        subst e1 e2
        rw [show (0 : Nat) + pk = pk by omega] at q1 q2
        obtain ⟨x, hx⟩ : ∃ x, eh pk = x := ⟨_, rfl⟩
        obtain ⟨y, hy⟩ : ∃ x, el pk = x := ⟨_, rfl⟩
        rw [hx] at q1 hg1
        rw [hy] at q2 hg2
        have HT1 := Lib.hid (HG1.out.step hg1)
        have HT2 := Lib.hid (HG2.out.step hg2)
        have r1 := HR1.out.cell k hlt
        have f1 := HR1.out.free k
        have r2 := HR2.out.cell k hlt
        have f2 := HR2.out.free k
        have hqp : gq ≠ gp := fun h => hpq h.symm
        clear hx hy hg1 hg2 hpk hpm
        go_upto_region 9 with (fail)
        go_region
        all_goals
          go_wp2_with fail
          go_roundw
          case rel => first
            | exact ⟨k + 1, by omega, by go_num, ⟨_, _, Lib.hid ((HR1.out.put k (.int .i64 x)).far (p := ⟨gq, k, none⟩) hpq (.int .i64 y)), Lib.hid ((HR2.out.far (p := ⟨gp, k, none⟩) hqp (.int .i64 x)).put k (.int .i64 y)), HT1, HT2⟩, Lib.hid (HO.out.over (Below.drew (((Below.refl b wr).setCell (p := ⟨gp, k, none⟩) (by simp only; omega) _).setCell (p := ⟨gq, k, none⟩) (by simp only; omega) _)) (Nat.le_refl b)), Lib.hid (Cells.keeps_ne (Cells.keeps_ne HNU.out ((Keeps.refl gp _).put k _) (fun ad h => by injection h with h; subst h; exact hne1)) (((Keeps.refl gq _).put k _).drewN 1) (fun ad h => by injection h with h; subst h; exact hne2))⟩
            | exact ⟨k + 1, by omega, by go_num, ⟨_, _, Lib.hid ((HR1.out.far (p := ⟨gq, k, none⟩) hpq (.int .i64 y)).put k (.int .i64 x)), Lib.hid ((HR2.out.put k (.int .i64 y)).far (p := ⟨gp, k, none⟩) hqp (.int .i64 x)), HT1, HT2⟩, Lib.hid (HO.out.over (Below.drew (((Below.refl b wr).setCell (p := ⟨gq, k, none⟩) (by simp only; omega) _).setCell (p := ⟨gp, k, none⟩) (by simp only; omega) _)) (Nat.le_refl b)), Lib.hid (Cells.keeps_ne (Cells.keeps_ne HNU.out ((Keeps.refl gq _).put k _) (fun ad h => by injection h with h; subst h; exact hne2)) (((Keeps.refl gp _).put k _).drewN 1) (fun ad h => by injection h with h; subst h; exact hne1))⟩
          case measure => simp [intOf]; omega
      · have hkm : m = k := by omega
        subst hkm
        have hd : decide ((m : Int) < m) = false := by rw [decide_eq_false_iff_not]; omega
        have HN1 := Lib.hid (HG1.out.nums HR1.out)
        have HN2 := Lib.hid (HG2.out.nums HR2.out)
        have hpd : ∀ i, i < m → (P i).toNat < m := fun i hi => by have := HPM.out.bd i hi; omega
        have bh2 : ∀ i, i < m → 0 ≤ eh (P i).toNat ∧ eh (P i).toNat ≤ 129 := fun i hi => HBH.out _ (hpd i hi)
        have bl2 : ∀ i, i < m → 0 ≤ el (P i).toNat ∧ el (P i).toNat ≤ 268435455 := fun i hi => HBL.out _ (hpd i hi)
        have hae2 := Ty.aerr_small HX0.out hm12 bh2 bl2
        obtain ⟨V, hV⟩ : ∃ V, t.uses (fun j => eh (P j).toNat) (fun j => el (P j).toNat) = V := ⟨_, rfl⟩
        have C2 : Hid (∀ W, t.In W W.heap.size → Nums W W.heap.size (some ⟨gp, 0, none⟩) m (fun j => eh (P j).toNat) → Nums W W.heap.size (some ⟨gq, 0, none⟩) m (fun j => el (P j).toNat) → Calls Try.prog 21 #[.agg t.cells, .slice (some ⟨gp, 0, none⟩) m m, .slice (some ⟨gq, 0, none⟩) m m] W (FinePost m V W)) := Lib.hid fun W a b c => by
          rw [← hV]; exact (reapply_any t _ m m _ _ m m _ W a (by omega) (by omega) b c).mono fun _ _ h => h.good hae2
        have HVP : Hid (∀ k : Nat, k ≤ m → (0 ≤ Ex.psum (fun i => (V i).a) k ∧ Ex.psum (fun i => (V i).a) k ≤ 17592186044416) ∧ (0 ≤ Ex.psum (fun i => (V i).b) k ∧ Ex.psum (fun i => (V i).b) k ≤ 17592186044416) ∧ (0 ≤ Ex.psum (fun i => (V i).c) k ∧ Ex.psum (fun i => (V i).c) k ≤ 17592186044416)) := Lib.hid fun k hk => by
          rw [← hV]
          exact Ty.part_bounds HX0.out (fun i hi => (bl2 i hi).1) hk
        have HEQ : Hid (Ex.psum (fun i => (V i).a) m = Ex.psum (fun i => (U i).a) m ∧ Ex.psum (fun i => (V i).b) m = Ex.psum (fun i => (U i).b) m ∧ (t.timed = false → Ex.psum (fun i => (V i).c) m = Ex.psum (fun i => (U i).c) m)) := Lib.hid (by
          rw [← hV, ← HU.out]
          exact Ty.order_same HX0.out (fun i hi => (HBL.out i hi).1) (fun i hi => (bl2 i hi).1) (HPM.out.psum el))
        have HS := Lib.hid HO.out.st
        have HT1 : Hid (Trips wr wr.heap.size (some ⟨g, 0, none⟩) m U) := Lib.hid (HO.out.tr.mono (by have := HR1.out.lt; omega))
        clear hpd bh2 bl2 hae2 hV HU HBH HBL HG1 HG2 HR1 HR2 HO HNU HPM HX0
        go_wp2_with ((refine wpList_load_has ?_ 27 (.tmp 5) ?_ T ?_ _ _ _ HS.out.box Try.underlying27 ?_ HTI.out ?_; rfl; rfl; rfl; rfl))
        refine (C2.out _ HS.out.inn HN1.out HN2.out).mono ?_
        rintro e x4 ⟨g2, c2, rfl, htr, hb⟩
        have HT2 := Lib.hid htr
        replace HT1 := Lib.hid ((HT1.out.below hb).mono hb.size)
        replace HS := Lib.hid (HS.out.next hb)
        clear htr hb C2 HN1 HN2 hd
        try simp only
        go_upto_region 13 with (fail)
        have HS2 : Hid (TwoSt w T t x4.heap.size g g2 m U V ((x4.alloc (.cells #[.int .i64 0, .int .i64 0, .int .i64 0] 50)).alloc (.cells #[.int .i64 0, .int .i64 0, .int .i64 0] 50))) := Lib.hid ⟨HS.out.next (Below.two x4 _ _), HS.out.lt, HT1.out.below (Below.two x4 _ _), HT2.out.below (Below.two x4 _ _)⟩
        have HA : Hid (Has ((x4.alloc (.cells #[.int .i64 0, .int .i64 0, .int .i64 0] 50)).alloc (.cells #[.int .i64 0, .int .i64 0, .int .i64 0] 50)) x4.heap.size #[.int .i64 0, .int .i64 0, .int .i64 0] 50) := Lib.hid ((Has.new x4 _ _).alloc _)
        have HBB : Hid (Has ((x4.alloc (.cells #[.int .i64 0, .int .i64 0, .int .i64 0] 50)).alloc (.cells #[.int .i64 0, .int .i64 0, .int .i64 0] 50)) (x4.heap.size + 1) #[.int .i64 0, .int .i64 0, .int .i64 0] 50) := Lib.hid (Has.new' _ _ _ _ (by simp))
        obtain ⟨W5, hW5⟩ : ∃ W, (x4.alloc (.cells #[.int .i64 0, .int .i64 0, .int .i64 0] 50)).alloc (.cells #[.int .i64 0, .int .i64 0, .int .i64 0] 50) = W := ⟨_, rfl⟩
        obtain ⟨G, hG⟩ : ∃ G, x4.heap.size = G := ⟨_, rfl⟩
        rw [hW5] at HS2 HA HBB
        rw [hG] at HS2 HA HBB
        rw [hW5, hG]
        clear hW5 hG HS HT1 HT2
        go_wp2_with fail
        go_loopw [19, 78] (fun _ i wr => ∃ k : Nat, k ≤ m ∧ i = .int .i64 k ∧ Hid (Has wr G #[.int .i64 (Ex.psum (fun i => (U i).a) k), .int .i64 (Ex.psum (fun i => (U i).b) k), .int .i64 (Ex.psum (fun i => (U i).c) k)] 50) ∧ Hid (Has wr (G + 1) #[.int .i64 0, .int .i64 0, .int .i64 0] 50) ∧ Hid (TwoSt w T t G g g2 m U V wr)) (fun _ i _ => m - (intOf i).toNat)
        case atStart => exact ⟨0, Nat.zero_le _, rfl, HA, HBB, HS2⟩
        case round =>
          clear HA HBB HS2
          obtain ⟨k, hk, rfl, HA, HBB, HS2⟩ := hrel
          by_cases hlt : k < m
          · obtain ⟨⟨a0, a1⟩, ⟨b0, b1⟩, ⟨c0, c1⟩⟩ := HUP.out k hk
            have hn := HUP.out (k + 1) hlt
            have ha : Ex.psum (fun i => (U i).a) (k + 1) = Ex.psum (fun i => (U i).a) k + (U k).a := rfl
            have hb : Ex.psum (fun i => (U i).b) (k + 1) = Ex.psum (fun i => (U i).b) k + (U k).b := rfl
            have hc : Ex.psum (fun i => (U i).c) (k + 1) = Ex.psum (fun i => (U i).c) k + (U k).c := rfl
            rw [ha, hb, hc] at hn
            obtain ⟨⟨a2, a3⟩, ⟨b2, b3⟩, ⟨c2, c3⟩⟩ := hn
            have hg := HS2.out.t1.get hlt
            obtain ⟨b', o', hA', hbl, q0, q1, q2⟩ := hg
            injection hA' with hA'
            injection hA' with hA1 hA2 _
            subst hA1 hA2
            rw [show (0 : Nat) + k * 3 = k * 3 by omega] at q0 q1 q2
            obtain ⟨sa, hsa⟩ : ∃ s, Ex.psum (fun i => (U i).a) k = s := ⟨_, rfl⟩
            obtain ⟨sb, hsb⟩ : ∃ s, Ex.psum (fun i => (U i).b) k = s := ⟨_, rfl⟩
            obtain ⟨sc, hsc⟩ : ∃ s, Ex.psum (fun i => (U i).c) k = s := ⟨_, rfl⟩
            obtain ⟨ua, hua⟩ : ∃ s, (U k).a = s := ⟨_, rfl⟩
            obtain ⟨ub, hub⟩ : ∃ s, (U k).b = s := ⟨_, rfl⟩
            obtain ⟨uc, huc⟩ : ∃ s, (U k).c = s := ⟨_, rfl⟩
            rw [hsa, hsb, hsc] at HA
            rw [hsa, hua] at ha a2 a3
            rw [hsb, hub] at hb b2 b3
            rw [hsc, huc] at hc c2 c3
            rw [hsa] at a0 a1
            rw [hsb] at b0 b1
            rw [hsc] at c0 c1
            rw [hua] at q0
            rw [hub] at q1
            rw [huc] at q2
            have HNA := Lib.hid ha
            have HNB := Lib.hid hb
            have HNC := Lib.hid hc
            have hk0 : (0 : Int) ≤ k := by omega
            have hk1 : (k : Int) < m := by omega
            have r0 := HA.out.cell 0
            have r1 := HA.out.cell 1
            have r2 := HA.out.cell 2
            have rf := HA.out.free
            have rl := HA.out.lt
            have hgG : g ≠ G := by omega
            simp only [List.getElem?_toArray, List.getElem?_cons_zero, List.getElem?_cons_succ] at r0 r1 r2
            clear hsa hsb hsc hua hub huc ha hb hc
            go_upto_region 16 with (fail)
            go_region
            all_goals
              go_wp2_with fail
              exact ⟨⟨k + 1, by omega, by go_num, by rw [HNA.out, HNB.out, HNC.out]; exact Lib.hid ((((HA.out.p0 (y := .int .i64 (sa + ua))).p1 (y := .int .i64 (sb + ub))).p2 (y := .int .i64 (sc + uc))).drewN 1), Lib.hid (((((HBB.out.far (p := ⟨G, 0, none⟩) (by simp only; omega) (.int .i64 (sa + ua))).far (p := ⟨G, 1, none⟩) (by simp only; omega) (.int .i64 (sb + ub))).far (p := ⟨G, 2, none⟩) (by simp only; omega) (.int .i64 (sc + uc))).drewN 1)), Lib.hid (HS2.out.over (below_drewN ((((Below.refl G wr).setCell (p := ⟨G, 0, none⟩) (by simp only; omega) (.int .i64 (sa + ua))).setCell (p := ⟨G, 1, none⟩) (by simp only; omega) (.int .i64 (sb + ub))).setCell (p := ⟨G, 2, none⟩) (by simp only; omega) (.int .i64 (sc + uc))) 1))⟩, by simp [intOf]; omega⟩
          · have hkm : m = k := by omega
            subst hkm
            have hd : decide ((m : Int) < m) = false := by rw [decide_eq_false_iff_not]; omega
            go_wp2_with fail
            clear hd
            go_loopw [20, 111] (fun _ i wr => ∃ k : Nat, k ≤ m ∧ i = .int .i64 k ∧ Hid (Has wr G #[.int .i64 (Ex.psum (fun i => (U i).a) m), .int .i64 (Ex.psum (fun i => (U i).b) m), .int .i64 (Ex.psum (fun i => (U i).c) m)] 50) ∧ Hid (Has wr (G + 1) #[.int .i64 (Ex.psum (fun i => (V i).a) k), .int .i64 (Ex.psum (fun i => (V i).b) k), .int .i64 (Ex.psum (fun i => (V i).c) k)] 50) ∧ Hid (TwoSt w T t G g g2 m U V wr)) (fun _ i _ => m - (intOf i).toNat)
            case atStart => exact ⟨0, Nat.zero_le _, rfl, HA, HBB, HS2⟩
            case round =>
              clear HA HBB HS2
              obtain ⟨k, hk, rfl, HA, HBB, HS2⟩ := hrel
              by_cases hlt : k < m
              · obtain ⟨⟨a0, a1⟩, ⟨b0, b1⟩, ⟨c0, c1⟩⟩ := HVP.out k hk
                have hn := HVP.out (k + 1) hlt
                have ha : Ex.psum (fun i => (V i).a) (k + 1) = Ex.psum (fun i => (V i).a) k + (V k).a := rfl
                have hb : Ex.psum (fun i => (V i).b) (k + 1) = Ex.psum (fun i => (V i).b) k + (V k).b := rfl
                have hc : Ex.psum (fun i => (V i).c) (k + 1) = Ex.psum (fun i => (V i).c) k + (V k).c := rfl
                rw [ha, hb, hc] at hn
                obtain ⟨⟨a2, a3⟩, ⟨b2, b3⟩, ⟨c2, c3⟩⟩ := hn
                have hg := HS2.out.t2.get hlt
                obtain ⟨b', o', hA', hbl, q0, q1, q2⟩ := hg
                injection hA' with hA'
                injection hA' with hA1 hA2 _
                subst hA1 hA2
                rw [show (0 : Nat) + k * 3 = k * 3 by omega] at q0 q1 q2
                obtain ⟨sa, hsa⟩ : ∃ s, Ex.psum (fun i => (V i).a) k = s := ⟨_, rfl⟩
                obtain ⟨sb, hsb⟩ : ∃ s, Ex.psum (fun i => (V i).b) k = s := ⟨_, rfl⟩
                obtain ⟨sc, hsc⟩ : ∃ s, Ex.psum (fun i => (V i).c) k = s := ⟨_, rfl⟩
                obtain ⟨ua, hua⟩ : ∃ s, (V k).a = s := ⟨_, rfl⟩
                obtain ⟨ub, hub⟩ : ∃ s, (V k).b = s := ⟨_, rfl⟩
                obtain ⟨uc, huc⟩ : ∃ s, (V k).c = s := ⟨_, rfl⟩
                rw [hsa, hsb, hsc] at HBB
                rw [hsa, hua] at ha a2 a3
                rw [hsb, hub] at hb b2 b3
                rw [hsc, huc] at hc c2 c3
                rw [hsa] at a0 a1
                rw [hsb] at b0 b1
                rw [hsc] at c0 c1
                rw [hua] at q0
                rw [hub] at q1
                rw [huc] at q2
                have HNA := Lib.hid ha
                have HNB := Lib.hid hb
                have HNC := Lib.hid hc
                have hk0 : (0 : Int) ≤ k := by omega
                have hk1 : (k : Int) < m := by omega
                have r0 := HBB.out.cell 0
                have r1 := HBB.out.cell 1
                have r2 := HBB.out.cell 2
                have rf := HBB.out.free
                have rl := HBB.out.lt
                have hgG : g2 ≠ G + 1 := by omega
                simp only [List.getElem?_toArray, List.getElem?_cons_zero, List.getElem?_cons_succ] at r0 r1 r2
                clear hsa hsb hsc hua hub huc ha hb hc
                go_upto_region 21 with (fail)
                go_region
                all_goals
                  go_wp2_with fail
                  exact ⟨⟨k + 1, by omega, by go_num, Lib.hid (((((HA.out.far (p := ⟨G + 1, 0, none⟩) (by simp only; omega) (.int .i64 (sa + ua))).far (p := ⟨G + 1, 1, none⟩) (by simp only; omega) (.int .i64 (sb + ub))).far (p := ⟨G + 1, 2, none⟩) (by simp only; omega) (.int .i64 (sc + uc))).drewN 1)), by rw [HNA.out, HNB.out, HNC.out]; exact Lib.hid ((((HBB.out.p0 (y := .int .i64 (sa + ua))).p1 (y := .int .i64 (sb + ub))).p2 (y := .int .i64 (sc + uc))).drewN 1), Lib.hid (HS2.out.over (below_drewN ((((Below.refl G wr).setCell (p := ⟨G + 1, 0, none⟩) (by simp only; omega) (.int .i64 (sa + ua))).setCell (p := ⟨G + 1, 1, none⟩) (by simp only; omega) (.int .i64 (sb + ub))).setCell (p := ⟨G + 1, 2, none⟩) (by simp only; omega) (.int .i64 (sc + uc))) 1))⟩, by simp [intOf]; omega⟩
              · have hkm : m = k := by omega
                subst hkm
                have hd : decide ((m : Int) < m) = false := by rw [decide_eq_false_iff_not]; omega
                obtain ⟨e1, e2, e3⟩ := HEQ.out
                rw [e1, e2] at HBB
                obtain ⟨sa, hsa⟩ : ∃ s, Ex.psum (fun i => (U i).a) m = s := ⟨_, rfl⟩
                obtain ⟨sb, hsb⟩ : ∃ s, Ex.psum (fun i => (U i).b) m = s := ⟨_, rfl⟩
                obtain ⟨sc, hsc⟩ : ∃ s, Ex.psum (fun i => (U i).c) m = s := ⟨_, rfl⟩
                obtain ⟨sd, hsd⟩ : ∃ s, Ex.psum (fun i => (V i).c) m = s := ⟨_, rfl⟩
                rw [hsa, hsb, hsc] at HA
                rw [hsa, hsb, hsd] at HBB
                rw [hsc, hsd] at e3
                have r0 := HA.out.cell 0
                have r1 := HA.out.cell 1
                have r2 := HA.out.cell 2
                have s0 := HBB.out.cell 0
                have s1 := HBB.out.cell 1
                have s2 := HBB.out.cell 2
                simp only [List.getElem?_toArray, List.getElem?_cons_zero, List.getElem?_cons_succ] at r0 r1 r2 s0 s1 s2
                have x17 : wr.cell? ⟨T, 17, none⟩ = some (.bool t.timed) := HS2.out.st.box.cell 17
                have HBE := Lib.hid HS2.out.st.below
                obtain ⟨tm, htm⟩ : ∃ b, t.timed = b := ⟨_, rfl⟩
                rw [htm] at x17 e3
                clear htm hsa hsb hsc hsd e1 e2 HS2 HA HBB HUP HVP HEQ
                cases tm with
                | true =>
                  clear e3
                  go_wp2_with (first | (go_at_call 10; refine (awake28_any _).mono ?_; rintro e w9 ⟨rfl, hb9⟩))
                  go_ret
                  exact ⟨rfl, HBE.out.trans (hb9.mono HBE.out.size)⟩
                | false =>
                  have heq := e3 rfl
                  subst heq
                  clear e3
                  go_wp2_with (first | (go_at_call 10; refine (awake28_any _).mono ?_; rintro e w9 ⟨rfl, hb9⟩))
                  go_ret
                  exact ⟨rfl, HBE.out.trans (hb9.mono HBE.out.size)⟩

set_option maxRecDepth 100000 in
theorem lifted (os : Os) (started : os.Started) (H : Type) (enc : TypeId × Value → H) :
    ReturnsInHanded {} Try.checked os 8 .any (Rows.reinstateOrderSpec.pre6 enc Try.prog Try.f8 Rows.reinstateOrderRow.domain false) (Rows.reinstateOrderSpec.post enc Try.prog Try.f8 false true false false) := by
  refine returnsInHanded_of_change (C := Try.checked) own started (by kernel_rfl) Try.func8
    (ChangeSpec.witness6 (enc := enc) (C := Try.checked) false ⟨#[], #[.slice none 0 0, .slice none 0 0], []⟩ 8 (by kernel_rfl) (by kernel_rfl) (by kernel_rfl) (by kernel_rfl)) ?_
  intro W base args ds gs before hval0 hW hcnd _
  have hval : ∀ (j : Nat) t v, Try.f8.params[j]? = some t → args[j]? = some v → Value.okWide Try.prog W .any base t v := hval0
  have hW' := hW
  obtain ⟨p, q, hA0, hV, rfl, hfz, hnd⟩ := hW
  have hA : DataW.TrodAll enc Try.prog W 0 (fun _ => true) true Try.f8.params.toList args.toList ds p := hA0
  rw [Try.params8] at hA hval
  obtain ⟨v0, vs0, d0, ds0, p0, q0, hargs, rfl, rfl, h0, r0⟩ := trodAll_cons hA
  obtain ⟨v1, vs1, d1, ds1, p1, q1, rfl, rfl, rfl, h1, r1⟩ := trodAll_cons r0
  obtain ⟨rfl, rfl, rfl⟩ := trodAll_nil r1
  obtain rfl : args = #[v0, v1] := by cases args; simp_all
  obtain ⟨rfl, rfl⟩ := trodVars_none hV
  have k0 := h0
  have lt0 : ∀ x ∈ p0, x.block < W.heap.size := by obtain ⟨m, hm⟩ := k0; exact DataW.trod_lt m _ _ _ hm
  obtain ⟨a0, len0, cap0, rfl⟩ := okWide_slice Try.underlying24 (hval 0 24 v0 rfl rfl)
  have r100 : Rd24 W [.slice a0 len0 cap0] := by obtain ⟨fuel, hf⟩ := h0; exact rd24 hf
  have k1 := h1
  have lt1 : ∀ x ∈ p1, x.block < W.heap.size := by obtain ⟨m, hm⟩ := k1; exact DataW.trod_lt m _ _ _ hm
  obtain ⟨a1, len1, cap1, rfl⟩ := okWide_slice Try.underlying24 (hval 1 24 v1 rfl rfl)
  have r101 : Rd24 W [.slice a1 len1 cap1] := by obtain ⟨fuel, hf⟩ := h1; exact rd24 hf
  clear hA0 hval0
  refine (walk _ _ W r100 r101).mono fun e W' ⟨he, bel⟩ => ?_
  subst he
  exact ⟨_, rfl, _, _, _, [], _, [], hW', trodAll_mk1 (shut_bool Try.underlying4 _), (trodAll_cons_mk (Below.trod laidOut (by kernel_rfl) (of_decide_eq_true (by kernel_rfl)) k0 bel lt0) (trodAll_cons_mk (Below.trod laidOut (by kernel_rfl) (of_decide_eq_true (by kernel_rfl)) k1 bel lt1) trodAll_mk0)), rfl, bel.frame _, fun h => by cases h⟩

theorem over : Rows.reinstateOrderRow.holds Try.pinned (OpenSpec.ofChange Rows.reinstateOrderSpec) :=
  OpenClaim.holds_of_wide 8 Try.f8 rfl rfl rfl rfl rfl rfl rfl ⟨rfl, rfl, rfl, rfl, rfl⟩ rfl rfl rfl rfl rfl (by kernel_rfl) Try.func8 (by kernel_rfl)
    (of_decide_eq_true (by kernel_rfl)) (by unfold Func.isWrapper; first | (rw [if_pos (by decide +kernel)]; kernel_rfl) | (rw [if_neg (by decide +kernel)]; exact ⟨rfl, rfl⟩))
    (fun os started H enc _ => lifted os started H enc)

/-- the statement -/
theorem proved : Rows.ReinstateOrderSaid := over
#print axioms proved
end Go.Proofs.Ytlmgfcgakdanaaa.reinstateOrder
