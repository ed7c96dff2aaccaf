/- Reference 5: put, gather, Names: they return a list of names. The points at which a wording changes: plain laws. No program in sight. -/
import Derived.Test.YtlbkhhbbkedhkaaGreatDoorMa23
import Derived.Test.YtlbkhhbbkedhkaaGreatDoorMa10
import Derived.Lib.SlicesCompact
namespace Go.Proofs.YtlbkhhbbkedhkaaGreatDoor
open Go.RowKit
set_option linter.unusedVariables false

/-- a list of at most m texts that a call returns -/
def StrP (m : Nat) (w : World) (e : Ending) (w' : World) : Prop := ∃ (A : Option Addr) (n c : Nat) (f : Nat → ByteArray), e = .returned (.slice A n c) ∧ n ≤ m ∧ Strs w' w'.heap.size A n f ∧ Below w.heap.size w w'
def OwnT (w : World) (base : Nat) (v : Value) (zs : List ByteArray) : Prop := w.ownsRow base 9 1 v zs.length (zs.map Value.string)
theorem OwnT.slice {w : World} {base : Nat} {v : Value} {zs : List ByteArray} (h : OwnT w base v zs) : ∃ A c, v = .slice A zs.length c ∧ Strs w w.heap.size A zs.length fun j => zs.getD j ByteArray.empty := by
  have hi : ∀ A c, v = .slice A zs.length c → Strs w w.heap.size A zs.length fun j => zs.getD j ByteArray.empty := fun A c e => by
    unfold OwnT at h
    rw [e] at h
    have := Cells.of_own h (fun j => .string (zs.getD j ByteArray.empty)) fun j hj => by simp only [List.length_map] at hj; simp [List.getElem?_eq_getElem hj]
    rw [Nat.mul_one] at this
    exact this
  rcases h.2 with ⟨h0, hx⟩ | ⟨g, cap, cur, h0, hb, _⟩
  · have hz : zs = [] := List.eq_nil_of_length_eq_zero hx
    exact ⟨none, 0, by rw [h0, hz]; rfl, hi _ _ (by rw [h0, hz]; rfl)⟩
  · exact ⟨some ⟨g, 0, none⟩, cap, h0, hi _ _ h0⟩
theorem OwnT.snoc {w : World} {base : Nat} {v : Value} {zs : List ByteArray} {z : ByteArray} (h : w.ownsRow base 9 1 v (zs.length + 1) (zs.map Value.string ++ [.string z])) : OwnT w base v (zs ++ [z]) := by
  unfold OwnT
  rw [List.map_append, List.length_append]
  exact h
theorem OwnT.nil (w : World) (base : Nat) : OwnT w base (.slice none 0 0) [] := ⟨rfl, .inl ⟨rfl, rfl⟩⟩

theorem run_leq (s x : ByteArray) (W : World) : (binOp .leq 9 (.string s) (.string x)).run Tryz.prog W = .ok (.bool (Go.Op.bytesLess s.toList x.toList || (s.toList == x.toList))) W := rfl
theorem run_lss (s x : ByteArray) (W : World) : (binOp .lss 9 (.string s) (.string x)).run Tryz.prog W = .ok (.bool (Go.Op.bytesLess s.toList x.toList)) W := rfl

set_option maxRecDepth 100000 in
set_option maxHeartbeats 2000000 in
theorem put_any (A : Option Addr) (c n : Nat) (f : Nat → ByteArray) (s : ByteArray) (w : World) (hl : n ≤ 1000) (h : Strs w w.heap.size A n f) : Calls Tryz.prog 125 #[.slice A n c, .string s] w (StrP (n + 1) w) := by
  have HX := Lib.hid h
  obtain ⟨i0, hi0, hz0, hz1, hz2⟩ := info_parts str_all
  have HI := Lib.hid hi0
  have HZ0 := Lib.hid hz0
  have HZ1 := Lib.hid hz1
  have HZ2 := Lib.hid hz2
  clear h hi0 hz0 hz1 hz2
  go_enter Tryz.func125, Tryz.ntmps125
  go_wp2_with fail
  go_loopw [5, 6, 7] (fun l d ix wr => ∃ (k : Nat) (done : Bool) (out : List ByteArray), k ≤ n ∧ out.length ≤ k + done.toNat ∧ ix = .int .i64 k ∧ d = .bool done ∧ Hid (OwnT wr w.heap.size l out) ∧ Hid (Below w.heap.size w wr)) (fun _ _ ix _ => n - (intOf ix).toNat)
  case atStart => exact ⟨0, false, [], by omega, by simp, rfl, rfl, Lib.hid (OwnT.nil w _), Lib.hid (Below.refl _ _)⟩
  case round =>
    obtain ⟨k, done, out, hk, hol, rfl, rfl, HO, HB⟩ := hrel
    have hs := HB.out.size
    by_cases hlt : k < n
    · obtain ⟨b, o, rfl, hbl, hcc⟩ := Cells.plain HX.out (by omega)
      obtain ⟨x, hx⟩ : ∃ x, f k = x := ⟨_, rfl⟩
      have hc0 : wr.cell? ⟨b, o + k, none⟩ = some (.string x) := by rw [HB.out.cell (p := ⟨b, o + k, none⟩) hbl, ← hx]; exact hcc k hlt
      have HBL := Lib.hid hbl
      clear hcc hx hbl
      have hk0 : (0 : Int) ≤ k := by omega
      have hk1 : (k : Int) < n := by omega
      cases done with
      | true =>
        have hol : out.length ≤ k + 1 := hol
        go_wp2_with (at_builtin; refine wpList_append_lies _ rfl _ _ 40 rfl w.heap.size 9 i0 _ 1 16 Tryz.underlying40 HI.out HZ0.out HZ1.out HZ2.out rfl (by omega) _ out.length (out.map Value.string) rfl (HO.out.alloc _) ⟨wr.heap.size, 0, none⟩ 1 1 [.string x] rfl rfl (World.news_of_block (cs := #[.string x]) (t := 9) (fr := (0, 0)) (heap_alloc_new wr _)) (by simp [Value.oneCell']) (by omega) (by unfold maxLen; omega) (by omega) (by simp; omega) (wr.heap.size + 1) (by simp) ?_; intro g cap w4 hown hgrow hat hlt4)
        have HO4 := Lib.hid (OwnT.snoc hown)
        have HB4 : Hid (Below w.heap.size w w4) := Lib.hid ((HB.out.alloc hs _).grown hgrow (by simp; omega) (fun q hq => (own_lt HO.out hq).2))
        clear hown hgrow hat HO HB
        go_wp2_with fail
        go_roundw
        case rel => exact ⟨k + 1, true, out ++ [x], by omega, by simp; omega, by go_num, rfl, HO4, HB4⟩
        case measure => simp [intOf]; omega
      | false =>
        have hol : out.length ≤ k := hol
        obtain ⟨lt, hlt2⟩ : ∃ z, Go.Op.bytesLess s.toList x.toList = z := ⟨_, rfl⟩
        obtain ⟨eq, heq⟩ : ∃ z, (s.toList == x.toList) = z := ⟨_, rfl⟩
        have hle : ∀ W, (binOp .leq 9 (.string s) (.string x)).run Tryz.prog W = .ok (.bool (lt || eq)) W := fun W => by rw [← hlt2, ← heq]; exact run_leq s x W
        have hls : ∀ W, (binOp .lss 9 (.string s) (.string x)).run Tryz.prog W = .ok (.bool lt) W := fun W => by rw [← hlt2]; exact run_lss s x W
        cases lt with
        | true =>
          go_upto_region 9 with (at_builtin; refine wpList_append_lies _ rfl _ _ 40 rfl w.heap.size 9 i0 _ 1 16 Tryz.underlying40 HI.out HZ0.out HZ1.out HZ2.out rfl (by omega) _ out.length (out.map Value.string) rfl (HO.out.alloc _) ⟨wr.heap.size, 0, none⟩ 1 1 [.string s] rfl rfl (World.news_of_block (cs := #[.string s]) (t := 9) (fr := (0, 0)) (heap_alloc_new wr _)) (by simp [Value.oneCell']) (by omega) (by unfold maxLen; omega) (by omega) (by simp; omega) (wr.heap.size + 1) (by simp) ?_; intro g cap w4 hown hgrow hat hlt4)
          have HO4 := Lib.hid (OwnT.snoc hown)
          have HB4 : Hid (Below w.heap.size w w4) := Lib.hid ((HB.out.alloc hs _).grown hgrow (by simp; omega) (fun q hq => (own_lt HO.out hq).2))
          have hc4 : w4.cell? ⟨b, o + k, none⟩ = some (.string x) := by
            have e1 := HB4.out.cell (p := ⟨b, o + k, none⟩) HBL.out
            have e2 := HB.out.cell (p := ⟨b, o + k, none⟩) HBL.out
            rw [e1, ← e2]; exact hc0
          clear hown hgrow hat HO HB hc0
          have hs4 := HB4.out.size
          obtain ⟨out2, ho2⟩ : ∃ z, out ++ [s] = z := ⟨_, rfl⟩
          have hol2 : out2.length ≤ k + 1 := by rw [← ho2]; simp; omega
          rw [ho2] at HO4
          clear ho2
          have HO := HO4
          go_wp2_with (at_builtin; refine wpList_append_lies _ rfl _ _ 40 rfl w.heap.size 9 i0 _ 1 16 Tryz.underlying40 HI.out HZ0.out HZ1.out HZ2.out rfl (by omega) _ out2.length (out2.map Value.string) rfl (HO.out.alloc _) ⟨w4.heap.size, 0, none⟩ 1 1 [.string x] rfl rfl (World.news_of_block (cs := #[.string x]) (t := 9) (fr := (0, 0)) (heap_alloc_new w4 _)) (by simp [Value.oneCell']) (by omega) (by unfold maxLen; omega) (by omega) (by simp; omega) (w4.heap.size + 1) (by simp) ?_; intro g cap w5 hown hgrow hat hlt4)
          have HO5 := Lib.hid (OwnT.snoc hown)
          have HB5 : Hid (Below w.heap.size w w5) := Lib.hid ((HB4.out.alloc hs4 _).grown hgrow (by simp; omega) (fun q hq => (own_lt HO.out hq).2))
          clear hown hgrow hat HO HO4 HB4
          go_wp2_with fail
          go_roundw
          case rel => exact ⟨k + 1, true, out2 ++ [x], by omega, by simp; omega, by go_num, rfl, HO5, HB5⟩
          case measure => simp [intOf]; omega
        | false =>
          cases eq with
          | true =>
            go_wp2_with (at_builtin; refine wpList_append_lies _ rfl _ _ 40 rfl w.heap.size 9 i0 _ 1 16 Tryz.underlying40 HI.out HZ0.out HZ1.out HZ2.out rfl (by omega) _ out.length (out.map Value.string) rfl (HO.out.alloc _) ⟨wr.heap.size, 0, none⟩ 1 1 [.string x] rfl rfl (World.news_of_block (cs := #[.string x]) (t := 9) (fr := (0, 0)) (heap_alloc_new wr _)) (by simp [Value.oneCell']) (by omega) (by unfold maxLen; omega) (by omega) (by simp; omega) (wr.heap.size + 1) (by simp) ?_; intro g cap w4 hown hgrow hat hlt4)
            have HO4 := Lib.hid (OwnT.snoc hown)
            have HB4 : Hid (Below w.heap.size w w4) := Lib.hid ((HB.out.alloc hs _).grown hgrow (by simp; omega) (fun q hq => (own_lt HO.out hq).2))
            clear hown hgrow hat HO HB
            go_wp2_with fail
            go_roundw
            case rel => exact ⟨k + 1, true, out ++ [x], by omega, by simp; omega, by go_num, rfl, HO4, HB4⟩
            case measure => simp [intOf]; omega
          | false =>
            go_wp2_with (at_builtin; refine wpList_append_lies _ rfl _ _ 40 rfl w.heap.size 9 i0 _ 1 16 Tryz.underlying40 HI.out HZ0.out HZ1.out HZ2.out rfl (by omega) _ out.length (out.map Value.string) rfl (HO.out.alloc _) ⟨wr.heap.size, 0, none⟩ 1 1 [.string x] rfl rfl (World.news_of_block (cs := #[.string x]) (t := 9) (fr := (0, 0)) (heap_alloc_new wr _)) (by simp [Value.oneCell']) (by omega) (by unfold maxLen; omega) (by omega) (by simp; omega) (wr.heap.size + 1) (by simp) ?_; intro g cap w4 hown hgrow hat hlt4)
            have HO4 := Lib.hid (OwnT.snoc hown)
            have HB4 : Hid (Below w.heap.size w w4) := Lib.hid ((HB.out.alloc hs _).grown hgrow (by simp; omega) (fun q hq => (own_lt HO.out hq).2))
            clear hown hgrow hat HO HB
            go_wp2_with fail
            go_roundw
            case rel => exact ⟨k + 1, false, out ++ [x], by omega, by simp; omega, by go_num, rfl, HO4, HB4⟩
            case measure => simp [intOf]; omega
    · have hkn : k = n := by omega
      subst hkn
      have hdd : decide ((k : Int) < k) = false := by rw [decide_eq_false_iff_not]; omega
      have hol1 : out.length ≤ k + 1 := by cases done <;> simp at hol <;> omega
      cases done with
      | true =>
        go_wp2_with fail
        go_ret
        obtain ⟨A', c', rfl, hi⟩ := HO.out.slice
        exact ⟨A', _, c', _, rfl, hol1, hi, HB.out⟩
      | false =>
        have hol2 : out.length ≤ k := hol
        go_wp2_with (at_builtin; refine wpList_append_lies _ rfl _ _ 40 rfl w.heap.size 9 i0 _ 1 16 Tryz.underlying40 HI.out HZ0.out HZ1.out HZ2.out rfl (by omega) _ out.length (out.map Value.string) rfl (HO.out.alloc _) ⟨wr.heap.size, 0, none⟩ 1 1 [.string s] rfl rfl (World.news_of_block (cs := #[.string s]) (t := 9) (fr := (0, 0)) (heap_alloc_new wr _)) (by simp [Value.oneCell']) (by omega) (by unfold maxLen; omega) (by omega) (by simp; omega) (wr.heap.size + 1) (by simp) ?_; intro g cap w4 hown hgrow hat hlt4)
        have HO4 := Lib.hid (OwnT.snoc hown)
        have HB4 : Hid (Below w.heap.size w w4) := Lib.hid ((HB.out.alloc hs _).grown hgrow (by simp; omega) (fun q hq => (own_lt HO.out hq).2))
        clear hown hgrow hat HO HB
        go_wp2_with fail
        go_ret
        obtain ⟨A', c', he, hi⟩ := HO4.out.slice
        exact ⟨A', _, c', _, by rw [← he]; simp, by simp; omega, hi, HB4.out⟩

set_option maxRecDepth 100000 in
set_option maxHeartbeats 4000000 in
theorem gather_any (e : Ex) : ∀ (A : Option Addr) (c n : Nat) (f : Nat → ByteArray) (a : EA) (w : World), n + e.size ≤ 1000 → Strs w w.heap.size A n f → ExAt w w.heap.size e a →
    Calls Tryz.prog 116 #[.slice A n c, .agg (e.cells a)] w (StrP (n + e.size) w) := by
  induction e with
  | bot => exact fun A c n f a w _ _ h => h.elim
  | mk op name nw ws lw hg na xs ih =>
    intro A c n0 f a w hsz hs hx
    obtain ⟨_, ⟨hnb, _⟩, hst, P, hcc, hee⟩ := hx
    unfold big at hnb
    have HAR : Hid (∀ k, k < na → ∀ (A : Option Addr) (c n : Nat) (f : Nat → ByteArray) (W : World), Below w.heap.size w W → Strs W W.heap.size A n f → n + (xs k).size ≤ 1000 → Calls Tryz.prog 116 #[.slice A n c, .agg ((xs k).cells (P k))] W (StrP (n + (xs k).size) W)) := Lib.hid fun k hk A c n f W hb h1 h2 => ih k A c n f (P k) W h2 h1 ((hee k hk).below hb hb.size)
    obtain ⟨Aw, cw, Aa, ca⟩ := a
    have HX : Hid (Cells w w.heap.size Aa (na * 6) fun j => (xs (j / 6)).cell (P (j / 6)) (j % 6)) := Lib.hid hcc
    have HXI := Lib.hid ex_info
    have HS := Lib.hid hs
    have HSZ : Hid (n0 + (1 + sumN (fun i => (xs i).size) na) ≤ 1000) := Lib.hid hsz
    have hn0 : n0 ≤ 999 := by have := HSZ.out; omega
    clear hst hcc hee ih hs hsz
    unfold Ex.cells Ex.row Ex.size
    simp only
    obtain ⟨G, hG⟩ : ∃ G, w.heap.size = G := ⟨_, rfl⟩
    have HGE := Lib.hid hG
    go_enter Tryz.func116, Tryz.ntmps116
    go_upto_region 1 with (fail)
    have HB : Hid (Below w.heap.size w (w.alloc (.cells #[.int .i64 op, .string name, .slice Aw nw cw, .int .i64 lw, .int .i64 hg, .slice Aa na ca] 43))) := Lib.hid ((Below.refl _ _).alloc (Nat.le_refl _) _)
    have HF := Lib.hid (Has.new w #[.int .i64 op, .string name, .slice Aw nw cw, .int .i64 lw, .int .i64 hg, .slice Aa na ca] 43)
    obtain ⟨W, hW⟩ : ∃ W, w.alloc (.cells #[.int .i64 op, .string name, .slice Aw nw cw, .int .i64 lw, .int .i64 hg, .slice Aa na ca] 43) = W := ⟨_, rfl⟩
    rw [hW] at HB HF ⊢
    rw [hG] at HF
    try rw [hG]
    clear hW hG
    have hGw : w.heap.size = G := HGE.out
    replace HS : Hid (Strs W W.heap.size A n0 f) := Lib.hid ((Cells.below HS.out HB.out).mono HB.out.size)
    obtain ⟨f0, f1, f2⟩ := HF.out.rules
    by_cases h3 : op = 3
    · subst h3
      go_wp2_with fail
      refine (put_any A c n0 f name W (by omega) HS.out).mono ?_
      rintro r w1 ⟨A1, n1, c1, f1', rfl, hn1, hs1, hb1⟩
      have HS1 := Lib.hid hs1
      have HN1 : Hid (n1 ≤ n0 + (1 + sumN (fun i => (xs i).size) 0)) := Lib.hid hn1
      replace HF := Lib.hid (HF.out.below hb1 f2)
      replace HB := Lib.hid (HB.out.trans (hb1.mono HB.out.size))
      clear hs1 hn1 hb1 HS f0 f1 f2
      obtain ⟨f0, f1, f2⟩ := HF.out.rules
      go_wp2_with fail
      go_loopw [0, 5] (fun l i wr => ∃ (k : Nat) (A : Option Addr) (n c : Nat) (f : Nat → ByteArray), k ≤ na ∧ i = .int .i64 k ∧ l = .slice A n c ∧ Hid (n ≤ n0 + (1 + sumN (fun i => (xs i).size) k)) ∧ Hid (Strs wr wr.heap.size A n f) ∧ Hid (Has wr G #[.int .i64 3, .string name, .slice Aw nw cw, .int .i64 lw, .int .i64 hg, .slice Aa na ca] 43) ∧ Hid (Below w.heap.size w wr)) (fun _ i _ => na - (intOf i).toNat)
      case atStart => exact ⟨0, A1, n1, c1, f1', Nat.zero_le _, rfl, rfl, HN1, HS1, HF, HB⟩
      case round =>
        clear HF HB HS1 HN1 f0 f1 f2
        obtain ⟨k, A, n, c, f, hk, rfl, rfl, HN, HS, HF, HB⟩ := hrel
        obtain ⟨f0, f1, f2⟩ := HF.out.rules
        by_cases hlt : k < na
        · obtain ⟨bb, o, hAa, hbb, hcc⟩ := part_at (f := fun i j => (xs i).cell (P i) j) HX.out hlt (by omega)
          subst hAa
          have hk0 : (0 : Int) ≤ k := by omega
          have hk1 : (k : Int) < na := by omega
          have hnum : IntKind.i64.wrap ((k : Int) + 1) = ((k + 1 : Nat) : Int) := by rw [IntKind.wrap_i64]; omega
          have hsk : n + (xs k).size ≤ n0 + (1 + sumN (fun i => (xs i).size) (k + 1)) := by have := HN.out; show _ ≤ n0 + (1 + (sumN (fun i => (xs i).size) k + (xs k).size)); omega
          have hsz : n + (xs k).size ≤ 1000 := by have := sumN_le (f := fun i => (xs i).size) hlt; have := HSZ.out; have := HN.out; omega
          have HSK := Lib.hid hsk
          have HC7 := Lib.hid (HAR.out k hlt A c n f _ HB.out HS.out hsz)
          have hrg : wr.rangeAt bb (o + k * 6) ((xs k).cells (P k)).toList := Ex.range fun j hj => by rw [HB.out.cell (p := ⟨bb, o + k * 6 + j, none⟩) hbb]; exact hcc j hj
          obtain ⟨y0, y1, y2, y3, y4, y5, hyy⟩ : ∃ y0 y1 y2 y3 y4 y5, (xs k).cells (P k) = #[y0, y1, y2, y3, y4, y5] := ⟨_, _, _, _, _, _, (Ex.cells_is _ _).symm⟩
          rw [hyy] at HC7 hrg
          have HRG := Lib.hid hrg
          clear hyy hrg hcc hsk hsz
          go_wp2_with (refine wpList_load_mid ?_ 43 (.tmp 24) ?_ bb (o + k * 6) ?_ _ _ HRG.out Tryz.underlying43 ?_ HXI.out ?_; rfl; rfl; rfl; rfl)
          refine HC7.out.mono ?_
          rintro r w8 ⟨A8, n8, c8, f8, rfl, hn8, hs8, hb8⟩
          have HF8 := Lib.hid (HF.out.below hb8 f2)
          have HB8 := Lib.hid (HB.out.trans (hb8.mono HB.out.size))
          have HS8 := Lib.hid hs8
          have HN8 : Hid (n8 ≤ n0 + (1 + sumN (fun i => (xs i).size) (k + 1))) := Lib.hid (Nat.le_trans hn8 HSK.out)
          clear HF HB HS HN f0 f1 f2 hb8 hs8 hn8 HC7 HRG HSK
          go_wp2_with fail
          go_roundw
          case rel => exact ⟨k + 1, A8, n8, c8, f8, by omega, by go_num, rfl, HN8, HS8, HF8, HB8⟩
          case measure => simp [intOf]; omega
        · have hkn : k = na := by omega
          subst hkn
          have hdd : decide ((k : Int) < k) = false := by rw [decide_eq_false_iff_not]; omega
          go_wp2_with fail
          go_ret
          exact ⟨A, n, c, f, rfl, HN.out, HS.out, HB.out⟩
    · have o3 : (op == 3) = false := by rw [beq_eq_false_iff_ne]; exact h3
      obtain ⟨A1, n1, c1, f1', q1, q2, q3, q4⟩ : ∃ A1 n1 c1 f1', A = A1 ∧ n0 = n1 ∧ c = c1 ∧ f = f1' := ⟨_, _, _, _, rfl, rfl, rfl, rfl⟩
      have HS1 : Hid (Strs W W.heap.size A1 n1 f1') := Lib.hid (by rw [← q1, ← q2, ← q4]; exact HS.out)
      have HN1 : Hid (n1 ≤ n0 + (1 + sumN (fun i => (xs i).size) 0)) := Lib.hid (by rw [← q2]; exact Nat.le_add_right _ _)
      rw [q1, q3]
      rw [show Value.slice A1 n0 c1 = Value.slice A1 n1 c1 by rw [q2]]
      clear q1 q2 q3 q4 HS f0 f1 f2
      obtain ⟨f0, f1, f2⟩ := HF.out.rules
      go_wp2_with fail
      go_loopw [0, 5] (fun l i wr => ∃ (k : Nat) (A : Option Addr) (n c : Nat) (f : Nat → ByteArray), k ≤ na ∧ i = .int .i64 k ∧ l = .slice A n c ∧ Hid (n ≤ n0 + (1 + sumN (fun i => (xs i).size) k)) ∧ Hid (Strs wr wr.heap.size A n f) ∧ Hid (Has wr G #[.int .i64 op, .string name, .slice Aw nw cw, .int .i64 lw, .int .i64 hg, .slice Aa na ca] 43) ∧ Hid (Below w.heap.size w wr)) (fun _ i _ => na - (intOf i).toNat)
      case atStart => exact ⟨0, A1, n1, c1, f1', Nat.zero_le _, rfl, rfl, HN1, HS1, HF, HB⟩
      case round =>
        clear HF HB HS1 HN1 f0 f1 f2
        obtain ⟨k, A, n, c, f, hk, rfl, rfl, HN, HS, HF, HB⟩ := hrel
        obtain ⟨f0, f1, f2⟩ := HF.out.rules
        by_cases hlt : k < na
        · obtain ⟨bb, o, hAa, hbb, hcc⟩ := part_at (f := fun i j => (xs i).cell (P i) j) HX.out hlt (by omega)
          subst hAa
          have hk0 : (0 : Int) ≤ k := by omega
          have hk1 : (k : Int) < na := by omega
          have hnum : IntKind.i64.wrap ((k : Int) + 1) = ((k + 1 : Nat) : Int) := by rw [IntKind.wrap_i64]; omega
          have hsk : n + (xs k).size ≤ n0 + (1 + sumN (fun i => (xs i).size) (k + 1)) := by have := HN.out; show _ ≤ n0 + (1 + (sumN (fun i => (xs i).size) k + (xs k).size)); omega
          have hsz : n + (xs k).size ≤ 1000 := by have := sumN_le (f := fun i => (xs i).size) hlt; have := HSZ.out; have := HN.out; omega
          have HSK := Lib.hid hsk
          have HC7 := Lib.hid (HAR.out k hlt A c n f _ HB.out HS.out hsz)
          have hrg : wr.rangeAt bb (o + k * 6) ((xs k).cells (P k)).toList := Ex.range fun j hj => by rw [HB.out.cell (p := ⟨bb, o + k * 6 + j, none⟩) hbb]; exact hcc j hj
          obtain ⟨y0, y1, y2, y3, y4, y5, hyy⟩ : ∃ y0 y1 y2 y3 y4 y5, (xs k).cells (P k) = #[y0, y1, y2, y3, y4, y5] := ⟨_, _, _, _, _, _, (Ex.cells_is _ _).symm⟩
          rw [hyy] at HC7 hrg
          have HRG := Lib.hid hrg
          clear hyy hrg hcc hsk hsz
          go_wp2_with (refine wpList_load_mid ?_ 43 (.tmp 24) ?_ bb (o + k * 6) ?_ _ _ HRG.out Tryz.underlying43 ?_ HXI.out ?_; rfl; rfl; rfl; rfl)
          refine HC7.out.mono ?_
          rintro r w8 ⟨A8, n8, c8, f8, rfl, hn8, hs8, hb8⟩
          have HF8 := Lib.hid (HF.out.below hb8 f2)
          have HB8 := Lib.hid (HB.out.trans (hb8.mono HB.out.size))
          have HS8 := Lib.hid hs8
          have HN8 : Hid (n8 ≤ n0 + (1 + sumN (fun i => (xs i).size) (k + 1))) := Lib.hid (Nat.le_trans hn8 HSK.out)
          clear HF HB HS HN f0 f1 f2 hb8 hs8 hn8 HC7 HRG HSK
          go_wp2_with fail
          go_roundw
          case rel => exact ⟨k + 1, A8, n8, c8, f8, by omega, by go_num, rfl, HN8, HS8, HF8, HB8⟩
          case measure => simp [intOf]; omega
        · have hkn : k = na := by omega
          subst hkn
          have hdd : decide ((k : Int) < k) = false := by rw [decide_eq_false_iff_not]; omega
          go_wp2_with fail
          go_ret
          exact ⟨A, n, c, f, rfl, HN.out, HS.out, HB.out⟩

theorem names_any (e : Ex) (a : EA) (w : World) (hs : e.size ≤ 1000) (hx : ExAt w w.heap.size e a) :
    Calls Tryz.prog 91 #[.agg (e.cells a)] w (StrP e.size w) := by
  have HC : Hid (∀ W, Below w.heap.size w W → Calls Tryz.prog 116 #[.slice none 0 0, .agg (e.cells a)] W (StrP (0 + e.size) W)) := Lib.hid fun W hb => gather_any e none 0 0 (fun _ => ByteArray.empty) a W (by omega) Cells.zero (hx.below hb hb.size)
  obtain ⟨y0, y1, y2, y3, y4, y5, hyy⟩ : ∃ y0 y1 y2 y3 y4 y5, e.cells a = #[y0, y1, y2, y3, y4, y5] := ⟨_, _, _, _, _, _, (Ex.cells_is e a).symm⟩
  rw [hyy] at HC ⊢
  clear hs hx hyy
  go_enter Tryz.func91, Tryz.ntmps91
  go_wp2_with fail
  refine (HC.out _ ((Below.refl _ _).alloc (Nat.le_refl _) _)).mono ?_
  rintro r w1 ⟨A, n, c, f, rfl, hn, hs, hb⟩
  go_wp2_with fail
  go_ret
  exact ⟨A, n, c, f, rfl, by omega, hs, ((Below.refl _ _).alloc (Nat.le_refl _) _).trans (hb.mono (by simp))⟩
end Go.Proofs.YtlbkhhbbkedhkaaGreatDoor
namespace Go.Proofs.YtlbkhhbbkedhkaaGreatDoor
set_option linter.unusedVariables false

/-- strictly ascending -/
def Up (l : List Int) : Prop := l.Pairwise (· < ·)
theorem Up.ext : ∀ {l m : List Int}, Up l → Up m → (∀ x, x ∈ l ↔ x ∈ m) → l = m
  | [], [], _, _, _ => rfl
  | [], b :: m, _, _, h => by have := (h b).2 (List.mem_cons_self ..); cases this
  | a :: l, [], _, _, h => by have := (h a).1 (List.mem_cons_self ..); cases this
  | a :: l, b :: m, h1, h2, h => by
    have h1' := List.pairwise_cons.1 h1
    have h2' := List.pairwise_cons.1 h2
    have e : a = b := by
      have ha := (h a).1 (List.mem_cons_self ..)
      have hb := (h b).2 (List.mem_cons_self ..)
      rcases List.mem_cons.1 ha with e | ha
      · exact e
      · rcases List.mem_cons.1 hb with e | hb
        · exact e.symm
        · have := h2'.1 a ha
          have := h1'.1 b hb
          omega
    subst e
    congr 1
    refine Up.ext h1'.2 h2'.2 fun x => ?_
    have hx := h x
    rw [List.mem_cons, List.mem_cons] at hx
    constructor
    · intro hm
      rcases hx.1 (.inr hm) with e | hm'
      · subst e; have := h1'.1 x hm; omega
      · exact hm'
    · intro hm
      rcases hx.2 (.inr hm) with e | hm'
      · subst e; have := h2'.1 x hm; omega
      · exact hm'

/-- the reference's insertion -/
def addL : List Int → Int → List Int
  | [], n => [n]
  | a :: l, n => if n < a then n :: a :: l else if n = a then a :: l else a :: addL l n
theorem addL_mem (l : List Int) (n x : Int) : x ∈ addL l n ↔ x = n ∨ x ∈ l := by
  induction l with
  | nil => simp [addL]
  | cons a l ih =>
    rw [addL]
    split
    · simp
    · split
      · rename_i h; subst h; simp
      · rw [List.mem_cons, ih, List.mem_cons]
        constructor
        · rintro (h | h | h)
          · exact .inr (.inl h)
          · exact .inl h
          · exact .inr (.inr h)
        · rintro (h | h | h)
          · exact .inr (.inl h)
          · exact .inl h
          · exact .inr (.inr h)
theorem addL_up {l : List Int} (n : Int) (h : Up l) : Up (addL l n) := by
  induction l with
  | nil => exact List.pairwise_singleton _ _
  | cons a l ih =>
    have h' := List.pairwise_cons.1 h
    rw [addL]
    split
    · rename_i hn
      refine List.pairwise_cons.2 ⟨fun x hx => ?_, h⟩
      rcases List.mem_cons.1 hx with e | hx
      · omega
      · have := h'.1 x hx; omega
    · split
      · exact h
      · refine List.pairwise_cons.2 ⟨fun x hx => ?_, ih h'.2⟩
        rcases (addL_mem l n x).1 hx with e | hx
        · omega
        · exact h'.1 x hx
theorem addL_low {A B : List Int} {n : Int} (h : ∀ a, a ∈ A → a < n) : addL (A ++ B) n = A ++ addL B n := by
  induction A with
  | nil => rfl
  | cons a A ih =>
    have ha := h a (List.mem_cons_self ..)
    rw [List.cons_append, addL, if_neg (by omega), if_neg (by omega), ih fun b hb => h b (List.mem_cons_of_mem _ hb)]
    rfl
theorem addL_done {A : List Int} {n : Int} (B : List Int) (h : ∃ a, a ∈ A ∧ n ≤ a) : addL (A ++ B) n = addL A n ++ B := by
  induction A with
  | nil => obtain ⟨a, h, _⟩ := h; cases h
  | cons a A ih =>
    rw [List.cons_append, addL, addL]
    split
    · rfl
    · split
      · rfl
      · rw [ih, List.cons_append]
        obtain ⟨b, hb, hn⟩ := h
        rcases List.mem_cons.1 hb with e | hb
        · omega
        · exact ⟨b, hb, hn⟩
theorem addL_length (l : List Int) (n : Int) : (addL l n).length ≤ l.length + 1 := by
  induction l with
  | nil => simp [addL]
  | cons a l ih =>
    rw [addL]
    split
    · simp
    · split
      · simp
      · simp only [List.length_cons]; omega

theorem compact_part (l : List Int) (hs : l.Pairwise (· ≤ ·)) : ∀ m, m ≤ l.length → Up (Lib.compactUpTo l.toArray m) ∧ ∀ x, x ∈ Lib.compactUpTo l.toArray m ↔ ∃ j, j < m ∧ l[j]? = some x
  | 0, _ => ⟨List.Pairwise.nil, fun x => by simp [Lib.compactUpTo]⟩
  | m + 1, hm => by
    obtain ⟨h1, h2⟩ := compact_part l hs m (by omega)
    have hle : ∀ i j (hi : i < l.length) (hj : j < l.length), i ≤ j → l[i] ≤ l[j] := fun i j hi hj hij => by
      rcases Nat.lt_or_ge i j with h | h
      · exact List.pairwise_iff_getElem.1 hs i j hi hj h
      · have : i = j := by omega
        subst this
        exact Int.le_refl _
    have hg : ∀ j, j < l.length → l.toArray[j]! = l[j]?.getD 0 := fun j hj => by simp [hj]
    have hget : ∀ j (hj : j < l.length), l.toArray[j]! = l[j] := fun j hj => by simp [hj]
    rw [Lib.compactUpTo_succ]
    cases hk : Lib.keeps l.toArray m with
    | true =>
      rw [if_pos rfl, hget m (by omega)]
      have hlt : ∀ x, x ∈ Lib.compactUpTo l.toArray m → x < l[m] := fun x hx => by
        obtain ⟨j, hj, e⟩ := (h2 x).1 hx
        rw [List.getElem?_eq_getElem (by omega)] at e
        injection e with e
        subst e
        have hne : m = 0 ∨ l.toArray[m]! ≠ l.toArray[m - 1]! := by simpa [Lib.keeps] using hk
        rcases hne with e | hne
        · omega
        · rw [hget m (by omega), hget (m - 1) (by omega)] at hne
          have a1 := hle j (m - 1) (by omega) (by omega) (by omega)
          have a2 := hle (m - 1) m (by omega) (by omega) (by omega)
          omega
      refine ⟨List.pairwise_append.2 ⟨h1, List.pairwise_singleton _ _, fun a ha b hb => ?_⟩, fun x => ?_⟩
      · rw [List.mem_singleton] at hb
        subst hb
        exact hlt a ha
      · rw [List.mem_append, h2, List.mem_singleton]
        constructor
        · rintro (⟨j, hj, e⟩ | e)
          · exact ⟨j, by omega, e⟩
          · exact ⟨m, by omega, by rw [e, List.getElem?_eq_getElem (by omega)]⟩
        · rintro ⟨j, hj, e⟩
          by_cases hjm : j = m
          · subst hjm
            rw [List.getElem?_eq_getElem (by omega)] at e
            injection e with e
            exact .inr e.symm
          · exact .inl ⟨j, by omega, e⟩
    | false =>
      have hne : m ≠ 0 ∧ l.toArray[m]! = l.toArray[m - 1]! := by simpa [Lib.keeps] using hk
      rw [hget m (by omega), hget (m - 1) (by omega)] at hne
      simp only [Bool.false_eq_true, if_false, List.append_nil]
      refine ⟨h1, fun x => ?_⟩
      rw [h2]
      constructor
      · rintro ⟨j, hj, e⟩; exact ⟨j, by omega, e⟩
      · rintro ⟨j, hj, e⟩
        by_cases hjm : j = m
        · subst hjm
          refine ⟨j - 1, by omega, ?_⟩
          rw [List.getElem?_eq_getElem (by omega)] at e ⊢
          rw [← hne.2]
          exact e
        · exact ⟨j, by omega, e⟩
def sortI (l : List Int) : List Int := l.mergeSort fun x y => decide (x ≤ y)
theorem sortI_up (l : List Int) : (sortI l).Pairwise (· ≤ ·) := by
  have := List.pairwise_mergeSort (le := fun x y : Int => decide (x ≤ y)) (fun a b c h1 h2 => by simp at *; omega) (fun a b => by simp; omega) l
  exact this.imp fun h => by simpa using h
theorem sortI_length (l : List Int) : (sortI l).length = l.length := List.length_mergeSort l
theorem sortI_mem (l : List Int) (x : Int) : x ∈ sortI l ↔ x ∈ l := List.mem_mergeSort
theorem compact_sort (l : List Int) : Up (Lib.compact (sortI l)) ∧ ∀ x, x ∈ Lib.compact (sortI l) ↔ x ∈ l := by
  obtain ⟨h1, h2⟩ := compact_part (sortI l) (sortI_up l) (sortI l).length (Nat.le_refl _)
  refine ⟨h1, fun x => ?_⟩
  rw [← sortI_mem l x]
  unfold Lib.compact
  rw [h2, List.mem_iff_getElem?]
  constructor
  · rintro ⟨j, _, e⟩; exact ⟨j, e⟩
  · rintro ⟨j, e⟩
    refine ⟨j, ?_, e⟩
    rcases Nat.lt_or_ge j (sortI l).length with h | h
    · exact h
    · rw [List.getElem?_eq_none h] at e; cases e

/-- the points, all of them, of the first k endorsements -/
def ptsL (es : Nat → En) : Nat → List Int
  | 0 => [0]
  | k + 1 => ptsL es k ++ [(es k).pf, (es k).pt]
def ptsR (es : Nat → En) : Nat → List Int
  | 0 => [0]
  | k + 1 => addL (addL (ptsR es k) (es k).pf) (es k).pt
theorem ptsR_up (es : Nat → En) : ∀ k, Up (ptsR es k)
  | 0 => List.pairwise_singleton _ _
  | k + 1 => addL_up _ (addL_up _ (ptsR_up es k))
theorem pts_mem (es : Nat → En) (x : Int) : ∀ k, x ∈ ptsR es k ↔ x ∈ ptsL es k
  | 0 => Iff.rfl
  | k + 1 => by
    rw [ptsR, ptsL, addL_mem, addL_mem, pts_mem es x k, List.mem_append]
    simp only [List.mem_cons, List.not_mem_nil, or_false]
    constructor
    · rintro (h | h | h)
      · exact .inr (.inr h)
      · exact .inr (.inl h)
      · exact .inl h
    · rintro (h | h | h)
      · exact .inr (.inr h)
      · exact .inr (.inl h)
      · exact .inl h
theorem pts_same (es : Nat → En) (k : Nat) : Lib.compact (sortI (ptsL es k)) = ptsR es k :=
  Up.ext (compact_sort _).1 (ptsR_up es k) fun x => by rw [(compact_sort _).2, pts_mem]
theorem ptsL_length (es : Nat → En) : ∀ k, (ptsL es k).length = 1 + 2 * k
  | 0 => rfl
  | k + 1 => by rw [ptsL, List.length_append, ptsL_length es k]; simp; omega
theorem ptsR_length (es : Nat → En) : ∀ k, (ptsR es k).length ≤ 1 + 2 * k
  | 0 => Nat.le_refl _
  | k + 1 => by
    rw [ptsR]
    have := addL_length (addL (ptsR es k) (es k).pf) (es k).pt
    have := addL_length (ptsR es k) (es k).pf
    have := ptsR_length es k
    omega
theorem ptsR_zero (es : Nat → En) (k : Nat) : (0 : Int) ∈ ptsR es k := by
  rw [pts_mem]
  induction k with
  | zero => exact List.mem_cons_self ..
  | succ k ih => rw [ptsL]; exact List.mem_append.2 (.inl ih)
theorem ptsR_mem (es : Nat → En) {i k : Nat} (h : i < k) : (es i).pf ∈ ptsR es k ∧ (es i).pt ∈ ptsR es k := by
  rw [pts_mem, pts_mem]
  induction k with
  | zero => omega
  | succ k ih =>
    rw [ptsL, List.mem_append, List.mem_append]
    by_cases e : i = k
    · subst e; exact ⟨.inr (by simp), .inr (by simp)⟩
    · have := ih (by omega); exact ⟨.inl this.1, .inl this.2⟩
/-- every point is an hour, if the wording is valid -/
theorem ptsR_range {es : Nat → En} {k : Nat} (h : ∀ i, i < k → (es i).ok) {x : Int} (hx : x ∈ ptsR es k) : 0 ≤ x ∧ x ≤ 876599 := by
  rw [pts_mem] at hx
  induction k with
  | zero => rw [ptsL, List.mem_singleton] at hx; omega
  | succ k ih =>
    rw [ptsL, List.mem_append] at hx
    rcases hx with hx | hx
    · exact ih (fun i hi => h i (by omega)) hx
    · have := (h k (by omega)).1.1
      simp only [List.mem_cons, List.not_mem_nil, or_false] at hx
      rcases hx with rfl | rfl <;> omega
end Go.Proofs.YtlbkhhbbkedhkaaGreatDoor
