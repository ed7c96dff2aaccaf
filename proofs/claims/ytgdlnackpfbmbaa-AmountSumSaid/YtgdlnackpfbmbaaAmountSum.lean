/- The law AmountSum: Sum returns the same sum or error as the reference, and Clamp and Valid answer as the reference's, for every input. No condition. -/
import Derived.Test.YtgdlnackpfbmbaaRows
import Derived.Test.YtgdlnackpfbmbaaAwake1
import Derived.Test.YtgdlnackpfbmbaaSum
import Derived.Test.YtgdlnackpfbmbaaClamp
import Derived.WalkKit
import Derived.ProofKit
import Derived.OpenShut
import Derived.ShutString
import Derived.ChangeOld
import Derived.Below
namespace Go.Proofs.Ytgdlnackpfbmbaa.amountSum
open Go.ChangeShapes Go.WideShapes Go.ChangeAt Go.RowKit
open Go.ChangeMaps (open_string shut_string)
set_option linter.unusedVariables false

theorem own : ownKnob Try.prog.godebug = none := by kernel_rfl
theorem laidOut : laidOutB Try.prog = true := by kernel_rfl

/-- WHAT THE WALK IS TOLD OF A SLICE OF INTEGERS THAT CAME IN: it is nil; or it leads to a row of 'cap' cells, the numbers 'zs' (the first 'len' are its elements, the rest its spare room), each fitting its kind. -/
def IsRow (k : IntKind) (w : World) (a : Option Addr) (len cap : Nat) (zs : List Int) : Prop :=
  (a = none ∧ len = 0 ∧ cap = 0 ∧ zs = []) ∨
  ∃ x, a = some x ∧ len ≤ cap ∧ cap ≤ maxLen ∧ zs.length = cap ∧ (∀ i, i < zs.length → w.cell? (x.add i) = some (.int k (zs.getD i 0))) ∧ ∀ n ∈ zs, (Lit.int k n).wf = true

theorem int_info : (Try.prog.info? 3).map (fun i => (i.zero, i.size, i.bytes)) = some (some (.int .i64 0), 1, 8) := by kernel_rfl

/-- the list after k rounds -/
def mix (ys : List Int) (k : Nat) : List Int := (ys.take k).map (fun z => z.tmod 1099511627776) ++ ys.drop k

theorem mix_len (ys : List Int) (k : Nat) (h : k ≤ ys.length) : (mix ys k).length = ys.length := by
  simp [mix]; omega

theorem mix_at (ys : List Int) (k : Nat) (h : k < ys.length) : (mix ys k)[k]? = some (nth ys k) := by
  have hl : ((ys.take k).map (fun z => z.tmod 1099511627776)).length = k := by simp; omega
  rw [mix, List.getElem?_append_right (by omega), hl, Nat.sub_self, List.getElem?_drop, Nat.add_zero, List.getElem?_eq_getElem h, nth_eq ys k h]

theorem mix_set (ys : List Int) (k : Nat) (h : k < ys.length) : (mix ys k).set k ((nth ys k).tmod 1099511627776) = mix ys (k + 1) := by
  have hl : ((ys.take k).map (fun z => z.tmod 1099511627776)).length = k := by simp; omega
  rw [mix, mix, List.set_append_right _ _ (by omega), hl, Nat.sub_self, take_nth ys k h, List.drop_eq_getElem_cons h, List.set_cons_zero, List.map_append]
  simp

theorem row_ints (w : World) (a0 : Option Addr) (len0 cap0 : Nat) (z0 : List Int) (w0 : IsRow .i64 w a0 len0 cap0 z0) :
    ∃ ys : List Int, ys.length = len0 ∧ Ints w w.heap.size a0 ys ∧ (a0 = none → len0 = 0 ∧ cap0 = 0) := by
  rcases w0 with ⟨rfl, rfl, rfl, rfl⟩ | ⟨x, rfl, h1, h2, h3, h4, h5⟩
  · exact ⟨[], rfl, Cells.zero, fun _ => ⟨rfl, rfl⟩⟩
  · refine ⟨z0.take len0, by simp; omega, fun hn => ⟨x, rfl, ?_, fun j hj => ?_⟩, fun h => by cases h⟩
    · rw [List.length_take] at hn
      have := cell_lt (h4 0 (by omega))
      rwa [add_block] at this
    · rw [List.length_take] at hj
      rw [h4 j (by omega)]
      simp [nth, show j < len0 by omega]

/-! ### STEP 1: THE WALK: the Go text returns true, AND WRITES NOTHING THAT WAS THERE: 'Below w.heap.size w w'' (Derived/Below.lean: '.refl', '.alloc', '.drew', '.setCell' at a new block, '.trans'). Open each 'IsRow' by 'rcases' AHEAD of 'go_enter'; part every test ahead of the walk. -/
set_option maxHeartbeats 4000000 in
set_option maxRecDepth 100000 in
theorem walk (a0 : Option Addr) (len0 cap0 : Nat) (z0 : List Int) (a1 : Int) (a2 : Bool) (w : World) (w0 : IsRow .i64 w a0 len0 cap0 z0) (w1 : (Lit.int .i64 a1).wf = true) :
    Calls Try.prog 9 #[.slice a0 len0 cap0, .int .i64 a1, .bool a2] w fun e w' => e = .returned (.bool true) ∧ Below w.heap.size w w' := by
  obtain ⟨i0, hi0, hz0, hz1, hz2⟩ := info_parts int_info
  have hlen : len0 ≤ 9223372036854775807 := by
    rcases w0 with ⟨_, h, _⟩ | ⟨x, _, h1, h2, _⟩
    · omega
    · unfold maxLen at h2; omega
  by_cases hl : 300 < len0
  · go_enter Try.func9, Try.ntmps9
    go_wp2_with (go_at_call 14; refine (awake1_any _).mono ?_; rintro e w' ⟨rfl, nq3, rfl⟩)
    go_ret
    exact ⟨rfl, below_drewN (Below.refl _ _) _⟩
  · obtain ⟨ys, hys, hints, hnil⟩ := row_ints w a0 len0 cap0 z0 w0
    have hl2 : len0 ≤ 300 := by omega
    clear w0 hlen hl w1
    have HY := Lib.hid hys
    have HI := Lib.hid hints
    have HN := Lib.hid hnil
    clear hys hints hnil
    go_enter Try.func9, Try.ntmps9
    go_wp2_with (at_builtin; refine wpList_append_cells _ rfl (.tmp 17) (.tmp 18) 32 rfl w.heap.size 3 i0 (.int .i64 0) 1 8 Try.underlying32 hi0 hz0 hz1 hz2 rfl (by omega) (.slice (some ⟨w.heap.size, 0, none⟩) 0 0) 0 [] rfl (own_empty w _ _) w.heap.size a0 len0 cap0 (fun j => .int .i64 (nth ys j)) rfl ?c1 HN.out (fun _ _ => rfl) ?c2 ?c3 ?c4 ?_)
    case c1 => exact (by rw [Nat.mul_one, ← HY.out]; exact HI.out.alloc (Nat.le_refl _) _)
    case c2 => simp only [maxLen]; omega
    case c3 => omega
    case c4 => simp
    intro v1 w1 hown1 hg1 hat1
    obtain ⟨g, hg⟩ : ∃ g, v1.ownBlock = some g := by
      rcases hat1 with e | e
      · exact ⟨_, e.trans rfl⟩
      · exact ⟨_, e⟩
    obtain ⟨cap, rfl, hgb⟩ := own_form hown1 hg
    have hb1 : Below w.heap.size w w1 := ((Below.refl _ _).alloc (Nat.le_refl _) _).grown hg1 (by simp) (fun k hk => by simp [Value.ownBlock] at hk; omega)
    rw [range_map_nth ys len0 HY.out] at hown1
    have HO := Lib.hid hown1
    have HB := Lib.hid hb1
    clear hown1 hb1 hg1 hat1 hg
    go_wp2
    go_loopw [8] (fun s8 wr => ∃ k : Nat, k ≤ len0 ∧ s8 = .int .i64 k ∧ Hid (wr.ownsRow w.heap.size 3 1 (.slice (some ⟨g, 0, none⟩) len0 cap) len0 ((mix ys k).map (Value.int .i64))) ∧ Hid (Below w.heap.size w wr)) (fun s8 _ => len0 - (intOf s8).toNat)
    case atStart => exact ⟨0, Nat.zero_le _, rfl, Lib.hid (by rw [show mix ys 0 = ys by simp [mix]]; exact HO.out), HB⟩
    case round =>
      clear HO HB
      obtain ⟨k, hk, rfl, HO, HB⟩ := hrel
      by_cases hc : k < len0 ∧ a2 = false
      · obtain ⟨hlt, rfl⟩ := hc
        have hky : k < ys.length := by rw [HY.out]; exact hlt
        have hcell := HO.out.cellAt k (by omega)
        have hfz := HO.out.frozenAt k
        rw [List.getElem?_map, mix_at ys k hky] at hcell
        obtain ⟨z, hz⟩ : ∃ z, nth ys k = z := ⟨_, rfl⟩
        rw [hz, Option.map_some] at hcell
        have hst := HO.out.stored k (.int .i64 (z.tmod 1099511627776))
        have hse := mix_set ys k hky
        rw [hz] at hse
        rw [← List.map_set, hse] at hst
        have HST := Lib.hid hst
        have HB2 : Hid (Below w.heap.size w (wr.setCell ⟨g, k, none⟩ (.int .i64 (z.tmod 1099511627776)))) := Lib.hid (HB.out.setCell hgb _)
        clear hz hst hse HO HB hky
        go_wp2
        go_roundw
        case rel => exact ⟨k + 1, by omega, by go_num, Lib.hid HST.out.1, HB2⟩
        case measure => simp [intOf]; omega
      · have hml : (mix ys k).length = len0 := by rw [mix_len ys k (by rw [HY.out]; exact hk), HY.out]
        have hin : Ints wr wr.heap.size (some ⟨g, 0, none⟩) (mix ys k) := by
          have := Cells.of_own HO.out (fun j => .int .i64 (nth (mix ys k) j)) (fun j hj => by
            simp only [List.length_map] at hj
            simp [nth_eq _ j hj])
          rw [Nat.mul_one, ← hml] at this
          exact this
        have c1 := sum_any (some ⟨g, 0, none⟩) cap wr.heap.size (mix ys k) wr (by omega) hin
        have c2 := rsum_any (some ⟨g, 0, none⟩) cap wr.heap.size (mix ys k) wr (by omega) hin
        rw [hml] at c1 c2
        obtain ⟨o1, ho1⟩ : ∃ o, (Am.sumR (mix ys k)).1 = o := ⟨_, rfl⟩
        obtain ⟨o2, ho2⟩ : ∃ o, (Am.sumR (mix ys k)).2 = o := ⟨_, rfl⟩
        rw [ho1, ho2] at c1 c2
        have C1 := Lib.hid c1
        have C2 := Lib.hid c2
        clear c1 c2 ho1 ho2 hin hml HO
        have hc' : len0 ≤ k ∨ (k < len0 ∧ a2 = true) := by
          by_cases h : k < len0
          · right
            refine ⟨h, ?_⟩
            cases a2
            · exact absurd ⟨h, rfl⟩ hc
            · rfl
          · left; omega
        clear hc
        rcases hc' with hge | ⟨hlt, rfl⟩
        · go_wp2_with (first | (go_at_call 18; refine C1.out.mono ?_; rintro e w' ⟨rfl, rfl⟩) | (go_at_call 19; refine C2.out.mono ?_; rintro e w' ⟨rfl, rfl⟩) | (go_at_call 20; refine (clamp_any _ _).mono ?_; rintro e w' ⟨rfl, rfl⟩) | (go_at_call 10; refine (rclamp_any _ _).mono ?_; rintro e w' ⟨rfl, rfl⟩) | (go_at_call 21; refine (valid_any _ _).mono ?_; rintro e w' ⟨rfl, rfl⟩) | (go_at_call 22; refine (rvalid_any _ _).mono ?_; rintro e w' ⟨rfl, rfl⟩) | (go_at_call 14; refine (awake1_any _).mono ?_; rintro e w' ⟨rfl, nq3, rfl⟩))
          go_ret
          exact ⟨rfl, below_drewN HB.out _⟩
        · go_wp2_with (first | (go_at_call 18; refine C1.out.mono ?_; rintro e w' ⟨rfl, rfl⟩) | (go_at_call 19; refine C2.out.mono ?_; rintro e w' ⟨rfl, rfl⟩) | (go_at_call 20; refine (clamp_any _ _).mono ?_; rintro e w' ⟨rfl, rfl⟩) | (go_at_call 10; refine (rclamp_any _ _).mono ?_; rintro e w' ⟨rfl, rfl⟩) | (go_at_call 21; refine (valid_any _ _).mono ?_; rintro e w' ⟨rfl, rfl⟩) | (go_at_call 22; refine (rvalid_any _ _).mono ?_; rintro e w' ⟨rfl, rfl⟩) | (go_at_call 14; refine (awake1_any _).mono ?_; rintro e w' ⟨rfl, nq3, rfl⟩))
          go_ret
          exact ⟨rfl, below_drewN HB.out _⟩

/-! ### THE ROW's STEP: WRITTEN OUT: LEAVE IT -/
set_option maxRecDepth 100000 in
theorem lifted (os : Os) (started : os.Started) (H : Type) (enc : TypeId × Value → H) :
    ReturnsInHanded {} Try.checked os 9 .any (Rows.amountSumSpec.pre6 enc Try.prog Try.f9 Rows.amountSumRow.domain false) (Rows.amountSumSpec.post enc Try.prog Try.f9 false true false false) := by
  refine returnsInHanded_of_change (C := Try.checked) own started (by kernel_rfl) Try.func9
    (ChangeSpec.witness6 (enc := enc) (C := Try.checked) false ⟨#[], #[.slice none 0 0, .int .i64 0, .bool false], []⟩ 8 (by kernel_rfl) (by kernel_rfl) (by kernel_rfl) (by kernel_rfl)) ?_
  intro W base args ds gs before hval0 hW hcnd _
  have hval : ∀ (j : Nat) t v, Try.f9.params[j]? = some t → args[j]? = some v → Value.okWide Try.prog W .any base t v := hval0
  have hW' := hW
  obtain ⟨p, q, hA0, hV, rfl, hfz, hnd⟩ := hW
  have hA : DataW.TrodAll enc Try.prog W 0 (fun _ => true) true Try.f9.params.toList args.toList ds p := hA0
  rw [Try.params9] at hA hval
  obtain ⟨v0, vs0, d0, ds0, p0, q0, hargs, rfl, rfl, h0, r0⟩ := trodAll_cons hA
  obtain ⟨v1, vs1, d1, ds1, p1, q1, rfl, rfl, rfl, h1, r1⟩ := trodAll_cons r0
  obtain ⟨v2, vs2, d2, ds2, p2, q2, rfl, rfl, rfl, h2, r2⟩ := trodAll_cons r1
  obtain ⟨rfl, rfl, rfl⟩ := trodAll_nil r2
  obtain rfl : args = #[v0, v1, v2] := by cases args; simp_all
  obtain ⟨rfl, rfl⟩ := trodVars_none hV
  obtain ⟨a0, len0, cap0, rfl⟩ := okWide_slice Try.underlying32 (hval 0 32 v0 rfl rfl)
  have k0 := h0
  have lt0 : ∀ x ∈ p0, x.block < W.heap.size := by obtain ⟨m, hm⟩ := k0; exact DataW.trod_lt m _ _ _ hm
  obtain ⟨z0, w0⟩ : ∃ zs, IsRow .i64 W a0 len0 cap0 zs := by
    obtain ⟨fuel, hf⟩ := h0
    rcases open_ints Try.underlying32 Try.underlying3 (by kernel_rfl) hf with ⟨hcs, _⟩ | ⟨x, l, c, zs, hcs, _, hl, hm, hz, _, hcell, hwz⟩
    · simp [Value.cells] at hcs
      obtain ⟨rfl, rfl, rfl⟩ := hcs
      exact ⟨[], .inl ⟨rfl, rfl, rfl, rfl⟩⟩
    · simp [Value.cells] at hcs
      obtain ⟨rfl, rfl, rfl⟩ := hcs
      exact ⟨zs, .inr ⟨_, rfl, hl, hm, by simpa using hz, hcell, hwz⟩⟩
  obtain ⟨a1, rfl, rfl, rfl, w1⟩ := open_int Try.underlying3 (hval 1 3 v1 rfl rfl) h1
  obtain ⟨a2, rfl, rfl, rfl⟩ := open_bool Try.underlying4 (hval 2 4 v2 rfl rfl) h2
  clear hA0 hval0
  refine (walk a0 len0 cap0 z0 a1 a2 W w0 w1).mono fun e W' ⟨he, bel⟩ => ?_
  subst he
  exact ⟨_, rfl, _, _, _, [], _, [], hW', trodAll_mk1 (shut_bool Try.underlying4 _), (trodAll_cons_mk (Below.trod laidOut (by kernel_rfl) (of_decide_eq_true (by kernel_rfl)) k0 bel lt0) (trodAll_cons_mk (shut_int Try.underlying3 w1) (trodAll_cons_mk (shut_bool Try.underlying4 _) trodAll_mk0))), rfl, bel.frame _, fun h => by cases h⟩

theorem over : Rows.amountSumRow.holds Try.pinned (OpenSpec.ofChange Rows.amountSumSpec) :=
  OpenClaim.holds_of_wide 9 Try.f9 rfl rfl rfl rfl rfl rfl rfl ⟨rfl, rfl, rfl, rfl, rfl⟩ rfl rfl rfl rfl rfl (by kernel_rfl) Try.func9 (by kernel_rfl)
    (of_decide_eq_true (by kernel_rfl)) (by unfold Func.isWrapper; first | (rw [if_pos (by decide +kernel)]; kernel_rfl) | (rw [if_neg (by decide +kernel)]; exact ⟨rfl, rfl⟩))
    (fun os started H enc _ => lifted os started H enc)

/-- ████ THE STATEMENT ████ -/
theorem proved : Rows.AmountSumSaid := over
#print axioms proved
end Go.Proofs.Ytgdlnackpfbmbaa.amountSum
