/- The law ExcessJoins: the layers of a tower without gaps recover together what one layer over all of them recovers, for every input. No condition. -/
import Derived.Test.YtigoeaidlgofoaaRows
import Derived.Test.YtigoeaidlgofoaaRead
import Derived.Test.YtigoeaidlgofoaaAwake22
import Derived.Test.YtigoeaidlgofoaaIdx22
import Derived.Test.YtigoeaidlgofoaaArgs2
import Derived.Test.YtigoeaidlgofoaaExJoin
import Derived.Test.YtigoeaidlgofoaaExSteady
import Derived.Deep.RegionLaw
import Derived.WalkKit
import Derived.ProofKit
import Derived.OpenShut
import Derived.ShutString
import Derived.ChangeOld
import Derived.Below
namespace Go.Proofs.Ytigoeaidlgofoaa.excessJoins
open Go.ChangeShapes Go.WideShapes Go.ChangeAt Go.RowKit
set_option linter.unusedVariables false

theorem own : ownKnob Try.prog.godebug = none := by kernel_rfl
theorem laidOut : laidOutB Try.prog = true := by kernel_rfl

set_option maxRecDepth 100000 in
theorem lay_info : (Try.prog.info? 36).map (fun i => (i.zero, i.size, i.bytes)) = some (some (.agg #[.int .i64 0, .int .i64 0]), 2, 16) := by kernel_rfl

/-- layers without gaps from first to t -/
def Chain (first t : Int) (ps : List (Int × Int)) : Prop := (∀ j, j < ps.length → fstOf ps j = first + Ex.psum (sndOf ps) j) ∧ t = first + Ex.psum (sndOf ps) ps.length ∧ ∀ j, j < ps.length → 0 ≤ sndOf ps j ∧ sndOf ps j ≤ 1073741824

theorem fst_old (ps : List (Int × Int)) (a : Int × Int) (j : Nat) (h : j < ps.length) : fstOf (ps ++ [a]) j = fstOf ps j := by simp [fstOf, List.getD, List.getElem?_append_left h]
theorem snd_old (ps : List (Int × Int)) (a : Int × Int) (j : Nat) (h : j < ps.length) : sndOf (ps ++ [a]) j = sndOf ps j := by simp [sndOf, List.getD, List.getElem?_append_left h]
theorem fst_new (ps : List (Int × Int)) (a : Int × Int) : fstOf (ps ++ [a]) ps.length = a.1 := by simp [fstOf, List.getD]
theorem snd_new (ps : List (Int × Int)) (a : Int × Int) : sndOf (ps ++ [a]) ps.length = a.2 := by simp [sndOf, List.getD]

theorem Chain.snoc {first t : Int} {ps : List (Int × Int)} (h : Chain first t ps) (q : Int) (q0 : 0 ≤ q) (q1 : q ≤ 1073741824) : Chain first (t + q) (ps ++ [(t, q)]) := by
  obtain ⟨h1, h2, h3⟩ := h
  have hs : ∀ k, k ≤ ps.length → Ex.psum (sndOf (ps ++ [(t, q)])) k = Ex.psum (sndOf ps) k := fun k hk => Ex.psum_congr _ _ _ fun j hj => snd_old ps _ j (by omega)
  refine ⟨fun j hj => ?_, ?_, fun j hj => ?_⟩
  · simp only [List.length_append, List.length_cons, List.length_nil] at hj
    rw [hs j (by omega)]
    by_cases e : j = ps.length
    · rw [e, fst_new, h2]
    · rw [fst_old ps _ j (by omega), h1 j (by omega)]
  · simp only [List.length_append, List.length_cons, List.length_nil]
    rw [Ex.psum, hs _ (Nat.le_refl _), snd_new, h2]
    simp only
    omega
  · simp only [List.length_append, List.length_cons, List.length_nil] at hj
    by_cases e : j = ps.length
    · rw [e, snd_new]; exact ⟨q0, q1⟩
    · rw [snd_old ps _ j (by omega)]; exact h3 j (by omega)

/-- what holds at the head of every round -/
def Rel (w : World) (first : Int) (b B : Nat) (at' v i : Value) (wr : World) : Prop := ∃ (k : Nat) (t : Int) (ps : List (Int × Int)), k + ps.length ≤ 6 ∧ i = .int .i64 k ∧ at' = .int .i64 t ∧ Chain first t ps ∧
  wr.ownsRow B 36 2 v ps.length (cellsOf ps) ∧ Keeps b w wr ∧ IsDeck wr b

set_option maxHeartbeats 4000000 in
set_option maxRecDepth 100000 in
theorem walk (v0 : Value) (w : World) (h0 : Rd22 w [v0]) :
    Calls Try.prog 6 #[v0] w fun e w' => e = .returned (.bool true) ∧ Below w.heap.size w w' := by
  obtain ⟨A, n, c, z, rfl, hn, _, _, hc, _⟩ := rd_ints h0
  have HC := Lib.hid hc
  clear h0 hc
  obtain ⟨i0, hi0, hz0, hz1, hz2⟩ := info_parts lay_info
  have HI := Lib.hid hi0
  have HZ0 := Lib.hid hz0
  have HZ1 := Lib.hid hz1
  have HZ2 := Lib.hid hz2
  clear hi0 hz0 hz1 hz2
  go_enter Try.func6, Try.ntmps6
  go_wp2_with fail
  refine (deck_new A n c z w hn HC.out).mono ?_
  rintro e w3 ⟨rfl, hb, hd⟩
  have HD := Lib.hid hd
  have HK := Lib.hid (Keeps.of_below hb w.heap.size)
  clear hb hd HC
  go_wp2_with fail
  refine (money_any _ _ HD.out).mono ?_
  rintro e w4 ⟨fi, rfl, fi0, fi1, hk2, hd2⟩
  replace HK := Lib.hid (HK.out.trans hk2)
  replace HD := Lib.hid hd2
  clear hk2 hd2
  go_wp2_with fail
  refine (range_any _ 1 6 _ HD.out (by omega) (by omega) (by omega) (by omega)).mono ?_
  rintro e w5 ⟨k0, rfl, k00, k01, hk2, hd2⟩
  replace HK := Lib.hid (HK.out.trans hk2)
  replace HD := Lib.hid hd2
  clear hk2 hd2
  obtain ⟨kn, rfl⟩ : ∃ n : Nat, k0 = n := ⟨k0.toNat, by omega⟩
  go_wp2_with fail
  go_loopw [5, 6, 7, 8] (fun t v i _ wr => Rel w fi w.heap.size (w.heap.size + 1) t v i wr) (fun _ _ i _ _ => (intOf i).toNat)
  case atStart => exact ⟨kn, fi, [], by simp; omega, rfl, rfl, ⟨fun j hj => by simp at hj, by simp [Ex.psum], fun j hj => by simp at hj⟩, ⟨rfl, .inl ⟨rfl, rfl⟩⟩, HK.out, HD.out⟩
  case round =>
    obtain ⟨k, t, ps, hkp, rfl, rfl, hch, ho, hk, hd⟩ := hrel
    clear HK HD
    have HCH := Lib.hid hch
    have HO := Lib.hid ho
    have HK := Lib.hid hk
    have HD := Lib.hid hd
    have hdl := hd.lt
    have hps := Ex.psum_nonneg (sndOf ps) ps.length hch.2.2 (by omega)
    have ht2 : fi ≤ t ∧ t ≤ fi + 6442450944 := by have := hch.2.1; omega
    obtain ⟨ht3, ht4⟩ := ht2
    clear ho hk hd hch hps
    by_cases hz : k = 0
    · subst hz
      have hzr := HK.out.size
      obtain ⟨M, cm, hv, HPM, hmb⟩ : ∃ (M : Option Addr) (cm : Nat), u6 = .slice M ps.length cm ∧ Hid (Pairs wr wr.heap.size M ps.length (fstOf ps) (sndOf ps)) ∧ Hid (∀ ad, M = some ad → ad.block ≠ w.heap.size) := by
        rcases HO.out.2 with ⟨hv, hv0⟩ | ⟨g, cap, cur, hv, hg, _, _, _, _, _⟩
        · exact ⟨none, 0, by rw [hv, hv0], Lib.hid (by rw [hv0]; exact Pairs.zero), Lib.hid fun ad h => by cases h⟩
        · have ho := HO.out
          rw [hv] at ho
          exact ⟨_, cap, hv, Lib.hid (Pairs.of_own ho), Lib.hid fun ad h => by injection h with h; subst h; simp only; omega⟩
      subst hv
      go_wp2_with fail
      refine (upto_any _ 8589934592 _ HD.out (by omega) (by omega)).mono ?_
      rintro e w6 ⟨bs, rfl, bs0, bs1, hk2, hd2⟩
      replace HPM := Lib.hid (HPM.out.keeps_ne hk2 hmb.out)
      replace HK := Lib.hid (HK.out.trans hk2)
      clear hk2 hd2 HD HO
      have HB6 : Hid (Below w.heap.size w w6) := Lib.hid (HK.out.new (Nat.le_refl _))
      have HT := Lib.hid (Ex.join_terr bs fi ps.length (fstOf ps) (sndOf ps) (by omega) fi0 fi1 bs0 bs1 HCH.out.2.2 HCH.out.1)
      have HS := Lib.hid (Ex.join_sum bs fi ps.length (fstOf ps) (sndOf ps) (by omega) fi0 fi1 bs0 bs1 HCH.out.2.2 HCH.out.1)
      have HTT := Lib.hid HCH.out.2.1
      obtain ⟨mm, hmm⟩ : ∃ m, ps.length = m := ⟨_, rfl⟩
      rw [hmm] at HPM hkp HT HS HTT ⊢
      have hz6 := HB6.out.size
      clear hmm
      go_wp2_with fail
      refine (tower_any bs M mm cm (fstOf ps) (sndOf ps) w6 (by omega) HPM.out).mono ?_
      rintro e w7 ⟨U, mu, cu, rfl, hb, hmu, hu⟩
      rw [HT.out, if_pos rfl] at hmu
      rw [HT.out]
      subst hmu
      have HB7 : Hid (Below w.heap.size w w7) := Lib.hid (HB6.out.trans (hb.mono hz6))
      have HU7 := Lib.hid hu
      have hz7 := HB7.out.size
      clear hb hu
      obtain ⟨F, hF⟩ : ∃ F : Nat → Int, (fun j => Ex.layer bs (fstOf ps j) (sndOf ps j)) = F := ⟨_, rfl⟩
      have HFB : Hid (∀ j, 0 ≤ F j ∧ F j ≤ 17592186044416) := Lib.hid fun j => by rw [← hF]; exact Ex.layer_bound _ _ _
      rw [hF] at HU7 HS
      obtain ⟨L, hL⟩ : ∃ L, Ex.layer bs fi (t - fi) = L := ⟨_, rfl⟩
      have HL : Hid (Ex.psum F mu = L) := Lib.hid (by rw [HS.out, ← hL, HTT.out]; congr 1; omega)
      have CL := Lib.hid (layer_any bs fi (t - fi))
      rw [hL] at CL
      clear hF hL HT HS HTT HCH HPM
      go_wp2_with fail
      go_loop [12, 13] (fun s i => ∃ k : Nat, k ≤ mu ∧ i = .int .i64 k ∧ s = .int .i64 (Ex.psum F k)) (fun _ i => mu - (intOf i).toNat)
      case atStart => exact ⟨0, Nat.zero_le _, rfl, rfl⟩
      case round =>
        obtain ⟨k, hk, rfl, rfl⟩ := hrel
        have hpk := Ex.psum_bound F 17592186044416 k fun j _ => HFB.out j
        obtain ⟨P, hP⟩ : ∃ P, Ex.psum F k = P := ⟨_, rfl⟩
        rw [hP] at hpk ⊢
        have hP1 : 0 ≤ P ∧ P ≤ 105553116266496 := by omega
        obtain ⟨hP2, hP3⟩ := hP1
        clear hpk
        by_cases hlt : k < mu
        · obtain ⟨b, o, rfl, had, hc0⟩ := HU7.out.get hlt
          have hy := HFB.out k
          obtain ⟨y, hye⟩ : ∃ y, F k = y := ⟨_, rfl⟩
          rw [hye] at hc0 hy
          have HN : Hid (Ex.psum F (k + 1) = P + y) := Lib.hid (by rw [Ex.psum, hP, hye])
          obtain ⟨hy0, hy1⟩ := hy
          clear hP hye
          go_wp2_with fail
          go_round
          case rel => exact ⟨k + 1, by omega, by go_num, by rw [HN.out]⟩
          case measure => simp [intOf]; omega
        · have hkm : k = mu := by omega
          subst hkm
          have hPL : P = L := by rw [← hP, HL.out]
          subst hPL
          clear hP HL
          go_wp2_with fail
          refine (CL.out _).mono ?_
          rintro e w8 ⟨rfl, hb⟩
          have HB8 : Hid (Below w.heap.size w w8) := Lib.hid (HB7.out.trans (hb.mono hz7))
          clear hb
          go_wp2_with fail
          refine (awake22_any _).mono ?_
          rintro e w9 ⟨rfl, hb9⟩
          go_wp2_with fail
          go_ret
          exact ⟨rfl, HB8.out.trans (hb9.mono HB8.out.size)⟩
    · have hk1 : (0 : Int) < k := by omega
      have hbb : w.heap.size < w.heap.size + 1 := by omega
      go_wp2_with fail
      refine (money_any _ _ HD.out).mono ?_
      rintro e wz ⟨q, rfl, q0, q1, hk2, hd2⟩
      replace HO := Lib.hid (own_keeps HO.out hk2 hbb)
      have HOZ := HO
      replace HK := Lib.hid (HK.out.trans hk2)
      replace HD := Lib.hid hd2
      clear hk2 hd2
      go_wp2_with fail
      obtain ⟨wd, hwd⟩ : ∃ wd, wz.alloc (.cells #[.int .i64 t, .int .i64 q] 36) = wd := ⟨_, rfl⟩
      have HZ : Hid (Has wd wz.heap.size #[.int .i64 t, .int .i64 q] 36) := Lib.hid (by rw [← hwd]; exact Has.new wz _ _)
      replace HO : Hid (wd.ownsRow (w.heap.size + 1) 36 2 u6 ps.length (cellsOf ps)) := Lib.hid (by rw [← hwd]; exact HO.out.alloc _)
      replace HK : Hid (Keeps w.heap.size w wd) := Lib.hid (by rw [← hwd]; exact HK.out.alloc _)
      have HR : Hid (∀ q, u6.ownBlock = some q → q ≠ wz.heap.size) := Lib.hid fun q hq => by
        rcases HOZ.out.2 with ⟨hv, _⟩ | ⟨g, cap, cur, hv, _, hh, _⟩
        · subst hv; simp [Value.ownBlock] at hq
        · subst hv
          simp only [Value.ownBlock, Option.some.injEq] at hq
          have := Has.lt (t := 36) (cs := cur) hh
          omega
      replace HD : Hid (IsDeck wd w.heap.size) := Lib.hid (by rw [← hwd]; exact HD.out.alloc _)
      obtain ⟨bz, hbz⟩ : ∃ b, wz.heap.size = b := ⟨_, rfl⟩
      rw [hbz] at HZ HR ⊢
      rw [hwd]
      clear hwd hbz HOZ
      have hsd := HK.out.size
      have hdd := HD.out.lt
      obtain ⟨r0, r1, r2⟩ := HZ.out.rules
      have hc0 := r0 0
      have hc1 := r0 1
      simp only [List.getElem?_toArray, List.getElem?_cons_zero, List.getElem?_cons_succ] at hc0 hc1
      have hwR : IntKind.i64.wrap (t + q) = t + q := by rw [IntKind.wrap_i64]; omega
      go_region_law (first
        | (refine step_append_lies _ (by rfl) _ _ _ (by rfl) (w.heap.size + 1) 36 i0 _ 2 16 Try.underlying30 HI.out HZ0.out HZ1.out HZ2.out rfl (by omega) u6 ps.length (cellsOf ps) (by rfl) ((HO.out.alloc _).drew) ⟨wd.heap.size, 0, none⟩ 1 1 [.int .i64 t, .int .i64 q] (by rfl) (by rfl) (World.news_of_block (cs := #[.int .i64 t, .int .i64 q]) (t := 36) (fr := (0, 0)) (heap_alloc_new wd _)) (by simp [Value.oneCell']) (by omega) (by unfold maxLen; omega) (by omega) (by simp; omega) (wd.heap.size + 1) (by simp) ?_; intro gg cap w4 hown hgrow hat hlt; have HZ4 : Hid (Has w4 bz #[.int .i64 t, .int .i64 q] 36) := Lib.hid ((hgrow.block bz (by simp; omega) (fun e => HR.out bz e.symm rfl)).trans (HZ.out.alloc _)); obtain ⟨s0, s1, s2⟩ := HZ4.out.rules; have hd0 := s0 0; have hd1 := s0 1; simp only [List.getElem?_toArray, List.getElem?_cons_zero, List.getElem?_cons_succ] at hd0 hd1))
      all_goals
        have HO2 : Hid (w4.ownsRow (w.heap.size + 1) 36 2 (.slice (some ⟨gg, 0, none⟩) (ps.length + 1) cap) (ps.length + 1) (cellsOf (ps ++ [(t, q)]))) := Lib.hid (by rw [cellsOf_snoc]; exact hown)
        have HK2 : Hid (Keeps w.heap.size w w4) := Lib.hid (((HK.out.alloc _).drewN 1).grown hgrow fun q hq => by obtain ⟨_, _, hg⟩ := own_form HO.out hq; omega)
        have HD2 : Hid (IsDeck w4 w.heap.size) := Lib.hid (((HD.out.alloc _).drewN 1).below ((Below.refl (w.heap.size + 1) _).grown hgrow (by simp; omega) fun q hq => by obtain ⟨_, _, hg⟩ := own_form HO.out hq; exact hg) (by omega))
        clear hown hgrow hat hwR r0 r1 s0 s1 hc0 hc1 hd0 hd1
        go_wp2_with fail
        go_roundw
        case rel => exact ⟨k - 1, t + q, ps ++ [(t, q)], by simp; omega, by congr 1; omega, rfl, HCH.out.snoc q q0 q1, by rw [List.length_append]; exact HO2.out, HK2.out, HD2.out⟩
        case measure => simp [intOf]; omega

set_option maxRecDepth 100000 in
theorem lifted (os : Os) (started : os.Started) (H : Type) (enc : TypeId × Value → H) :
    ReturnsInHanded {} Try.checked os 6 .any (Rows.excessJoinsSpec.pre6 enc Try.prog Try.f6 Rows.excessJoinsRow.domain false) (Rows.excessJoinsSpec.post enc Try.prog Try.f6 false true false false) := by
  refine returnsInHanded_of_change (C := Try.checked) own started (by kernel_rfl) Try.func6
    (ChangeSpec.witness6 (enc := enc) (C := Try.checked) false ⟨#[], #[.slice none 0 0], []⟩ 8 (by kernel_rfl) (by kernel_rfl) (by kernel_rfl) (by kernel_rfl)) ?_
  intro W base args ds gs before hval0 hW hcnd _
  have hval : ∀ (j : Nat) t v, Try.f6.params[j]? = some t → args[j]? = some v → Value.okWide Try.prog W .any base t v := hval0
  have hW' := hW
  obtain ⟨p, q, hA0, hV, rfl, hfz, hnd⟩ := hW
  have hA : DataW.TrodAll enc Try.prog W 0 (fun _ => true) true Try.f6.params.toList args.toList ds p := hA0
  rw [Try.params6] at hA hval
  obtain ⟨v0, vs0, d0, ds0, p0, q0, hargs, rfl, rfl, h0, r0⟩ := trodAll_cons hA
  obtain ⟨rfl, rfl, rfl⟩ := trodAll_nil r0
  obtain rfl : args = #[v0] := by cases args; simp_all
  obtain ⟨rfl, rfl⟩ := trodVars_none hV
  have k0 := h0
  have lt0 : ∀ x ∈ p0, x.block < W.heap.size := by obtain ⟨m, hm⟩ := k0; exact DataW.trod_lt m _ _ _ hm
  obtain ⟨a0, len0, cap0, rfl⟩ := okWide_slice Try.underlying22 (hval 0 22 v0 rfl rfl)
  have r100 : Rd22 W [.slice a0 len0 cap0] := by obtain ⟨fuel, hf⟩ := h0; exact rd22 hf
  clear hA0 hval0
  refine (walk _ W r100).mono fun e W' ⟨he, bel⟩ => ?_
  subst he
  exact ⟨_, rfl, _, _, _, [], _, [], hW', trodAll_mk1 (shut_bool Try.underlying4 _), (trodAll_cons_mk (Below.trod laidOut (by kernel_rfl) (of_decide_eq_true (by kernel_rfl)) k0 bel lt0) trodAll_mk0), rfl, bel.frame _, fun h => by cases h⟩

theorem over : Rows.excessJoinsRow.holds Try.pinned (OpenSpec.ofChange Rows.excessJoinsSpec) :=
  OpenClaim.holds_of_wide 6 Try.f6 rfl rfl rfl rfl rfl rfl rfl ⟨rfl, rfl, rfl, rfl, rfl⟩ rfl rfl rfl rfl rfl (by kernel_rfl) Try.func6 (by kernel_rfl)
    (of_decide_eq_true (by kernel_rfl)) (by unfold Func.isWrapper; first | (rw [if_pos (by decide +kernel)]; kernel_rfl) | (rw [if_neg (by decide +kernel)]; exact ⟨rfl, rfl⟩))
    (fun os started H enc _ => lifted os started H enc)

/-- the statement -/
theorem proved : Rows.ExcessJoinsSaid := over
#print axioms proved
end Go.Proofs.Ytigoeaidlgofoaa.excessJoins
