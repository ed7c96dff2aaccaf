/- The points at which a wording changes: the walks. Reference 9: Order. -/
import Derived.Test.YtlbkhhbbkedhkaaGreatDoorMa24
import Derived.Test.YtlbkhhbbkedhkaaGreatDoorMa03
import Derived.Maps.AppendAt
import Derived.Deep.AppendLies
import Derived.Lib.OwnBridge
import Derived.Lib.AppendIntMem
namespace Go.Proofs.YtlbkhhbbkedhkaaGreatDoor
open Go.RowKit
set_option linter.unusedVariables false

/-- a list of numbers that a call returns -/
def IntsPost (zs : List Int) (w : World) (e : Ending) (w' : World) : Prop := ∃ (A : Option Addr) (c : Nat), e = .returned (.slice A zs.length c) ∧ Ints w' w'.heap.size A zs ∧ Below w.heap.size w w'
def OwnI (w : World) (base : Nat) (v : Value) (zs : List Int) : Prop := w.ownsRow base 3 1 v zs.length (zs.map (Value.int .i64))
theorem OwnI.slice {w : World} {base : Nat} {v : Value} {zs : List Int} (h : OwnI w base v zs) : ∃ A c, v = .slice A zs.length c ∧ Ints w w.heap.size A zs := by
  have hi : ∀ A c, v = .slice A zs.length c → Ints w w.heap.size A zs := fun A c e => by
    unfold OwnI at h
    rw [e] at h
    have := Cells.of_own h (fun j => .int .i64 (nth zs j)) fun j hj => by simp only [List.length_map] at hj; simp [nth_eq zs j hj]
    rw [Nat.mul_one] at this
    exact this
  rcases h.2 with ⟨h0, hx⟩ | ⟨g, cap, cur, h0, hb, _⟩
  · have hz : zs = [] := List.eq_nil_of_length_eq_zero hx
    exact ⟨none, 0, by rw [h0, hz]; rfl, hi _ _ (by rw [h0, hz]; rfl)⟩
  · exact ⟨some ⟨g, 0, none⟩, cap, h0, hi _ _ h0⟩
theorem OwnI.snoc {w : World} {base : Nat} {v : Value} {zs : List Int} {z : Int} (h : w.ownsRow base 3 1 v (zs.length + 1) (zs.map (Value.int .i64) ++ [.int .i64 z])) : OwnI w base v (zs ++ [z]) := by
  unfold OwnI
  rw [List.map_append, List.length_append]
  exact h
theorem OwnI.snoc2 {w : World} {base : Nat} {v : Value} {zs : List Int} {y z : Int} (h : w.ownsRow base 3 1 v (zs.length + 2) (zs.map (Value.int .i64) ++ [.int .i64 y, .int .i64 z])) : OwnI w base v (zs ++ [y, z]) := by
  unfold OwnI
  rw [List.map_append, List.length_append]
  exact h
theorem OwnI.nil (w : World) (base : Nat) : OwnI w base (.slice none 0 0) [] := ⟨rfl, .inl ⟨rfl, rfl⟩⟩
theorem OwnI.one (w : World) (z : Int) : OwnI (w.alloc (.cells #[.int .i64 z] 3)) w.heap.size (.slice (some ⟨w.heap.size, 0, none⟩) 1 1) [z] :=
  ⟨rfl, .inr ⟨w.heap.size, 1, #[.int .i64 z], rfl, Nat.le_refl _, heap_alloc_new w _, Nat.le_refl _, by unfold maxLen; omega, by simp, by simp⟩⟩
theorem OwnI.below {w w' : World} {base : Nat} {v : Value} {zs : List Int} (h : OwnI w base v zs) (hb : Below w.heap.size w w') : OwnI w' base v zs := own_below h hb

/-- where the reference's insertion stands behind k elements -/
def AddInv (zs : List Int) (n : Int) (k : Nat) (done : Bool) (out : List Int) : Prop :=
  (done = true → (∃ a, a ∈ zs.take k ∧ n ≤ a) ∧ out = addL (zs.take k) n) ∧ (done = false → (∀ a, a ∈ zs.take k → a < n) ∧ out = zs.take k)
theorem AddInv.start (zs : List Int) (n : Int) : AddInv zs n 0 false [] := ⟨fun c => (by cases c), fun _ => ⟨fun a ha => by simp at ha, by simp⟩⟩
theorem AddInv.skip {zs out : List Int} {n : Int} {k : Nat} (hk : k < zs.length) (h : AddInv zs n k false out) (hx : nth zs k < n) : AddInv zs n (k + 1) false (out ++ [nth zs k]) := by
  obtain ⟨h1, h2⟩ := h.2 rfl
  refine ⟨fun c => (by cases c), fun _ => ⟨fun a ha => ?_, by rw [take_nth zs k hk, h2]⟩⟩
  rw [take_nth zs k hk, List.mem_append, List.mem_singleton] at ha
  rcases ha with ha | ha
  · exact h1 a ha
  · omega
theorem AddInv.here {zs out : List Int} {n : Int} {k : Nat} (hk : k < zs.length) (h : AddInv zs n k false out) (hx : n = nth zs k) : AddInv zs n (k + 1) true (out ++ [nth zs k]) := by
  obtain ⟨h1, h2⟩ := h.2 rfl
  refine ⟨fun _ => ⟨⟨nth zs k, by rw [take_nth zs k hk]; simp, by omega⟩, ?_⟩, fun c => (by cases c)⟩
  rw [take_nth zs k hk, addL_low h1, h2, addL, if_neg (by omega), if_pos hx]
theorem AddInv.put {zs out : List Int} {n : Int} {k : Nat} (hk : k < zs.length) (h : AddInv zs n k false out) (hx : n < nth zs k) : AddInv zs n (k + 1) true (out ++ [n] ++ [nth zs k]) := by
  obtain ⟨h1, h2⟩ := h.2 rfl
  refine ⟨fun _ => ⟨⟨nth zs k, by rw [take_nth zs k hk]; simp, by omega⟩, ?_⟩, fun c => (by cases c)⟩
  rw [take_nth zs k hk, addL_low h1, h2, addL, if_pos hx, List.append_assoc]
  rfl
theorem AddInv.more {zs out : List Int} {n : Int} {k : Nat} (hk : k < zs.length) (h : AddInv zs n k true out) : AddInv zs n (k + 1) true (out ++ [nth zs k]) := by
  obtain ⟨⟨a, ha, hn⟩, h2⟩ := h.1 rfl
  refine ⟨fun _ => ⟨⟨a, by rw [take_nth zs k hk]; exact List.mem_append.2 (.inl ha), hn⟩, ?_⟩, fun c => (by cases c)⟩
  rw [take_nth zs k hk, addL_done _ ⟨a, ha, hn⟩, h2]
theorem AddInv.done {zs out : List Int} {n : Int} (h : AddInv zs n zs.length true out) : out = addL zs n := by
  have := (h.1 rfl).2
  rwa [List.take_length] at this
theorem AddInv.last {zs out : List Int} {n : Int} (h : AddInv zs n zs.length false out) : out ++ [n] = addL zs n := by
  obtain ⟨h1, h2⟩ := h.2 rfl
  rw [List.take_length] at h1 h2
  rw [h2, ← List.append_nil zs, addL_low (by simpa using h1), List.append_nil]
  rfl

set_option maxRecDepth 100000 in
set_option maxHeartbeats 2000000 in
theorem add_any (A : Option Addr) (c : Nat) (zs : List Int) (n : Int) (w : World) (hl : zs.length ≤ 1000) (h : Ints w w.heap.size A zs) : Calls Tryz.prog 24 #[.slice A zs.length c, .int .i64 n] w (IntsPost (addL zs n) w) := by
  have HX := Lib.hid h
  obtain ⟨i0, hi0, hz0, hz1, hz2⟩ := info_parts i64_info
  have HI := Lib.hid hi0
  have HZ0 := Lib.hid hz0
  have HZ1 := Lib.hid hz1
  have HZ2 := Lib.hid hz2
  obtain ⟨N, hN⟩ : ∃ N, zs.length = N := ⟨_, rfl⟩
  have HN := Lib.hid hN
  rw [hN]
  rw [hN] at hl
  clear h hi0 hz0 hz1 hz2 hN
  go_enter Tryz.func24, Tryz.ntmps24
  go_wp2_with fail
  go_loopw [5, 6, 7] (fun l d ix wr => ∃ (k : Nat) (done : Bool) (out : List Int), k ≤ N ∧ out.length ≤ k + done.toNat ∧ ix = .int .i64 k ∧ d = .bool done ∧ Hid (AddInv zs n k done out) ∧ Hid (OwnI wr w.heap.size l out) ∧ Hid (Below w.heap.size w wr)) (fun _ _ ix _ => N - (intOf ix).toNat)
  case atStart => exact ⟨0, false, [], by omega, by simp, rfl, rfl, Lib.hid (AddInv.start zs n), Lib.hid (OwnI.nil w _), Lib.hid (Below.refl _ _)⟩
  case round =>
    obtain ⟨k, done, out, hk, hol, rfl, rfl, HA, HO, HB⟩ := hrel
    have hs := HB.out.size
    by_cases hlt : k < N
    · obtain ⟨b, o, rfl, hbl, hcc⟩ := Cells.plain HX.out (by rw [HN.out]; omega)
      have hkz : k < zs.length := by rw [HN.out]; exact hlt
      obtain ⟨x, hx⟩ : ∃ x, nth zs k = x := ⟨_, rfl⟩
      have hc0 : wr.cell? ⟨b, o + k, none⟩ = some (.int .i64 x) := by rw [HB.out.cell (p := ⟨b, o + k, none⟩) hbl, ← hx]; exact hcc k hkz
      have HXE := Lib.hid hx
      have HKZ := Lib.hid hkz
      have HBL := Lib.hid hbl
      clear hcc hx hkz hbl
      have hk0 : (0 : Int) ≤ k := by omega
      have hk1 : (k : Int) < N := by omega
      cases done with
      | true =>
        have hol : out.length ≤ k + 1 := hol
        go_wp2_with (at_builtin; refine wpList_append_lies _ rfl _ _ 26 rfl w.heap.size 3 i0 _ 1 8 Tryz.underlying26 HI.out HZ0.out HZ1.out HZ2.out rfl (by omega) _ out.length (out.map (Value.int .i64)) rfl (HO.out.alloc _) ⟨wr.heap.size, 0, none⟩ 1 1 [.int .i64 x] rfl rfl (World.news_of_block (cs := #[.int .i64 x]) (t := 3) (fr := (0, 0)) (heap_alloc_new wr _)) (by simp [Value.oneCell']) (by omega) (by unfold maxLen; omega) (by omega) (by simp; omega) (wr.heap.size + 1) (by simp) ?_; intro g cap w4 hown hgrow hat hlt4)
        have HO4 := Lib.hid (OwnI.snoc hown)
        have HB4 : Hid (Below w.heap.size w w4) := Lib.hid ((HB.out.alloc hs _).grown hgrow (by simp; omega) (fun q hq => (own_lt HO.out hq).2))
        have HA4 := HA.out.more HKZ.out
        rw [HXE.out] at HA4
        have HA5 := Lib.hid HA4
        clear hown hgrow hat HO HB HA HA4
        go_wp2_with fail
        go_roundw
        case rel => exact ⟨k + 1, true, out ++ [x], by omega, by simp; omega, by go_num, rfl, HA5, HO4, HB4⟩
        case measure => simp [intOf]; omega
      | false =>
        have hol : out.length ≤ k := hol
        by_cases h1 : n ≤ x
        · by_cases h2 : n < x
          · go_upto_region 9 with (at_builtin; refine wpList_append_lies _ rfl _ _ 26 rfl w.heap.size 3 i0 _ 1 8 Tryz.underlying26 HI.out HZ0.out HZ1.out HZ2.out rfl (by omega) _ out.length (out.map (Value.int .i64)) rfl (HO.out.alloc _) ⟨wr.heap.size, 0, none⟩ 1 1 [.int .i64 n] rfl rfl (World.news_of_block (cs := #[.int .i64 n]) (t := 3) (fr := (0, 0)) (heap_alloc_new wr _)) (by simp [Value.oneCell']) (by omega) (by unfold maxLen; omega) (by omega) (by simp; omega) (wr.heap.size + 1) (by simp) ?_; intro g cap w4 hown hgrow hat hlt4)
            have HO4 := Lib.hid (OwnI.snoc hown)
            have HB4 : Hid (Below w.heap.size w w4) := Lib.hid ((HB.out.alloc hs _).grown hgrow (by simp; omega) (fun q hq => (own_lt HO.out hq).2))
            have HA4 := HA.out.put HKZ.out (by rw [HXE.out]; exact h2)
            rw [HXE.out] at HA4
            have HA5 := Lib.hid HA4
            have hc4 : w4.cell? ⟨b, o + k, none⟩ = some (.int .i64 x) := by
              have e1 := HB4.out.cell (p := ⟨b, o + k, none⟩) HBL.out
              have e2 := HB.out.cell (p := ⟨b, o + k, none⟩) HBL.out
              rw [e1, ← e2]; exact hc0
            clear hown hgrow hat HA HA4 HO HB hc0
            have hs4 := HB4.out.size
            obtain ⟨out2, ho2⟩ : ∃ z, out ++ [n] = z := ⟨_, rfl⟩
            have hol2 : out2.length ≤ k + 1 := by rw [← ho2]; simp; omega
            rw [ho2] at HO4 HA5
            clear ho2
            have HO := HO4
            go_wp2_with (at_builtin; refine wpList_append_lies _ rfl _ _ 26 rfl w.heap.size 3 i0 _ 1 8 Tryz.underlying26 HI.out HZ0.out HZ1.out HZ2.out rfl (by omega) _ out2.length (out2.map (Value.int .i64)) rfl (HO.out.alloc _) ⟨w4.heap.size, 0, none⟩ 1 1 [.int .i64 x] rfl rfl (World.news_of_block (cs := #[.int .i64 x]) (t := 3) (fr := (0, 0)) (heap_alloc_new w4 _)) (by simp [Value.oneCell']) (by omega) (by unfold maxLen; omega) (by omega) (by simp; omega) (w4.heap.size + 1) (by simp) ?_; intro g cap w5 hown hgrow hat hlt4)
            have HO5 := Lib.hid (OwnI.snoc hown)
            have HB5 : Hid (Below w.heap.size w w5) := Lib.hid ((HB4.out.alloc hs4 _).grown hgrow (by simp; omega) (fun q hq => (own_lt HO.out hq).2))
            clear hown hgrow hat HO HO4 HB4
            go_wp2_with fail
            go_roundw
            case rel => exact ⟨k + 1, true, out2 ++ [x], by omega, by simp; omega, by go_num, rfl, HA5, HO5, HB5⟩
            case measure => simp [intOf]; omega
          · go_wp2_with (at_builtin; refine wpList_append_lies _ rfl _ _ 26 rfl w.heap.size 3 i0 _ 1 8 Tryz.underlying26 HI.out HZ0.out HZ1.out HZ2.out rfl (by omega) _ out.length (out.map (Value.int .i64)) rfl (HO.out.alloc _) ⟨wr.heap.size, 0, none⟩ 1 1 [.int .i64 x] rfl rfl (World.news_of_block (cs := #[.int .i64 x]) (t := 3) (fr := (0, 0)) (heap_alloc_new wr _)) (by simp [Value.oneCell']) (by omega) (by unfold maxLen; omega) (by omega) (by simp; omega) (wr.heap.size + 1) (by simp) ?_; intro g cap w4 hown hgrow hat hlt4)
            have HO4 := Lib.hid (OwnI.snoc hown)
            have HB4 : Hid (Below w.heap.size w w4) := Lib.hid ((HB.out.alloc hs _).grown hgrow (by simp; omega) (fun q hq => (own_lt HO.out hq).2))
            have HA4 := HA.out.here HKZ.out (by rw [HXE.out]; omega)
            rw [HXE.out] at HA4
            have HA5 := Lib.hid HA4
            clear hown hgrow hat HO HB HA HA4
            go_wp2_with fail
            go_roundw
            case rel => exact ⟨k + 1, true, out ++ [x], by omega, by simp; omega, by go_num, rfl, HA5, HO4, HB4⟩
            case measure => simp [intOf]; omega
        · have h1' : x < n := by omega
          go_wp2_with (at_builtin; refine wpList_append_lies _ rfl _ _ 26 rfl w.heap.size 3 i0 _ 1 8 Tryz.underlying26 HI.out HZ0.out HZ1.out HZ2.out rfl (by omega) _ out.length (out.map (Value.int .i64)) rfl (HO.out.alloc _) ⟨wr.heap.size, 0, none⟩ 1 1 [.int .i64 x] rfl rfl (World.news_of_block (cs := #[.int .i64 x]) (t := 3) (fr := (0, 0)) (heap_alloc_new wr _)) (by simp [Value.oneCell']) (by omega) (by unfold maxLen; omega) (by omega) (by simp; omega) (wr.heap.size + 1) (by simp) ?_; intro g cap w4 hown hgrow hat hlt4)
          have HO4 := Lib.hid (OwnI.snoc hown)
          have HB4 : Hid (Below w.heap.size w w4) := Lib.hid ((HB.out.alloc hs _).grown hgrow (by simp; omega) (fun q hq => (own_lt HO.out hq).2))
          have HA4 := HA.out.skip HKZ.out (by rw [HXE.out]; exact h1')
          rw [HXE.out] at HA4
          have HA5 := Lib.hid HA4
          clear hown hgrow hat HO HB HA HA4
          go_wp2_with fail
          go_roundw
          case rel => exact ⟨k + 1, false, out ++ [x], by omega, by simp; omega, by go_num, rfl, HA5, HO4, HB4⟩
          case measure => simp [intOf]; omega
    · have hkn : k = N := by omega
      subst hkn
      have hdd : decide ((k : Int) < k) = false := by rw [decide_eq_false_iff_not]; omega
      have HA' := HA.out
      rw [← HN.out] at HA'
      have hol1 : out.length ≤ k + 1 := by cases done <;> simp at hol <;> omega
      cases done with
      | true =>
        have HR := Lib.hid HA'.done
        clear HA'
        go_wp2_with fail
        go_ret
        obtain ⟨A', c', rfl, hi⟩ := HO.out.slice
        exact ⟨A', c', by rw [← HR.out]; rfl, by rw [← HR.out]; exact hi, HB.out⟩
      | false =>
        have HR := Lib.hid HA'.last
        clear HA'
        go_wp2_with (at_builtin; refine wpList_append_lies _ rfl _ _ 26 rfl w.heap.size 3 i0 _ 1 8 Tryz.underlying26 HI.out HZ0.out HZ1.out HZ2.out rfl (by omega) _ out.length (out.map (Value.int .i64)) rfl (HO.out.alloc _) ⟨wr.heap.size, 0, none⟩ 1 1 [.int .i64 n] rfl rfl (World.news_of_block (cs := #[.int .i64 n]) (t := 3) (fr := (0, 0)) (heap_alloc_new wr _)) (by simp [Value.oneCell']) (by omega) (by unfold maxLen; omega) (by omega) (by simp; omega) (wr.heap.size + 1) (by simp) ?_; intro g cap w4 hown hgrow hat hlt4)
        have HO4 := Lib.hid (OwnI.snoc hown)
        have HB4 : Hid (Below w.heap.size w w4) := Lib.hid ((HB.out.alloc hs _).grown hgrow (by simp; omega) (fun q hq => (own_lt HO.out hq).2))
        clear hown hgrow hat HO HB HA
        go_wp2_with fail
        go_ret
        obtain ⟨A', c', he, hi⟩ := HO4.out.slice
        exact ⟨A', c', by rw [← HR.out, ← he]; rfl, by rw [← HR.out]; exact hi, HB4.out⟩
end Go.Proofs.YtlbkhhbbkedhkaaGreatDoor
namespace Go.Proofs.YtlbkhhbbkedhkaaGreatDoor
open Go.RowKit
set_option linter.unusedVariables false

/-- a list and an error -/
def OrdP (w : World) (r : Ending) (w' : World) : Prop := (∃ (A : Option Addr) (n c : Nat) (v : Int), r = .returned (.tuple #[.slice A n c, .int .i64 v])) ∧ Below w.heap.size w w'
/-- how many are not done -/
def cntN (f : Nat → Bool) : Nat → Nat
  | 0 => 0
  | n + 1 => cntN f n + (f n).not.toNat
theorem cntN_pos {f : Nat → Bool} {q n : Nat} (h : q < n) (hf : f q = false) : 1 ≤ cntN f n := by
  induction n with
  | zero => omega
  | succ n ih =>
    rw [cntN]
    by_cases e : q = n
    · subst e; rw [hf]; simp
    · have := ih (by omega); omega
theorem cntN_same {f g : Nat → Bool} {n : Nat} (h : ∀ j, j < n → f j = g j) : cntN f n = cntN g n := by
  induction n with
  | zero => rfl
  | succ n ih => rw [cntN, cntN, ih (fun j hj => h j (by omega)), h n (by omega)]
theorem cntN_set {f : Nat → Bool} {q n : Nat} (h : q < n) (hf : f q = false) : cntN (fun j => if j = q then true else f j) n + 1 = cntN f n := by
  induction n with
  | zero => omega
  | succ n ih =>
    rw [cntN, cntN]
    by_cases e : q = n
    · subst e
      rw [if_pos rfl, hf, cntN_same (g := f) (fun j hj => if_neg (by omega))]
      simp
    · rw [if_neg (fun c => e c.symm)]
      have := ih (by omega); omega
theorem cntN_zero (n : Nat) : cntN (fun _ => false) n = n := by
  induction n with
  | zero => rfl
  | succ n ih => rw [cntN, ih]; rfl
def lenOf : Value → Nat
  | .slice _ n _ => n
  | _ => 0
set_option maxRecDepth 100000 in
theorem bool_all : (Tryz.prog.info? 4).map (fun i => (i.zero, i.size, i.bytes)) = some (some (.bool false), 1, 1) := by kernel_rfl

set_option maxRecDepth 100000 in
set_option maxHeartbeats 8000000 in
theorem order_any (A : Option Addr) (c m : Nat) (cs : Nat → Cl) (w : World) (h : ClsAt w w.heap.size A m cs) (hm : m ≤ 1000) (hz : ∀ k, k < m → (cs k).e.size ≤ 300) :
    Calls Tryz.prog 62 #[.slice A m c] w (OrdP w) := by
  obtain ⟨i0, hi0, hz0, hz1, hz2⟩ := info_parts bool_all
  obtain ⟨W1, hmk, ho, hg⟩ := run_make_full (P := Tryz.prog) w w.heap.size 131 4 i0 (.bool false) 1 Tryz.underlying131 hi0 hz0 hz1 .i64 .i64 m (by rw [hz2]; omega) (by unfold maxLen; omega) (Nat.le_refl _)
  have hrow : Row W1 w.heap.size m 4 (fun j => .bool ((fun _ => false : Nat → Bool) j)) := by
    have := Row.made (h := fun j => .bool ((fun _ => false : Nat → Bool) j)) ho (fun j hj => by rw [Nat.mul_one] at hj; simp [Value.cells, madeCells, hj, Nat.mod_one])
    rwa [Nat.mul_one] at this
  have HB1 : Hid (Below w.heap.size w W1) := Lib.hid ((Below.refl _ _).grown hg (Nat.le_refl _) (fun _ h => by cases h))
  have HR1 := Lib.hid hrow
  obtain ⟨_, P, hcc, hee⟩ := id h
  have HCL := Lib.hid h
  have HX : Hid (Cells w w.heap.size A (m * 10) fun j => (cs (j / 10)).cell (P (j / 10)) (j % 10)) := Lib.hid hcc
  have HNM : Hid (∀ k, k < m → ∀ W, Below w.heap.size w W → Calls Tryz.prog 91 #[.agg ((cs k).e.cells (P k).ea)] W (StrP 300 W)) := Lib.hid fun k hk W hb => (names_any _ _ W (by have := hz k hk; omega) ((hee k hk).1.below hb hb.size)).mono fun r w' ⟨A, n, c, f, e, hn, hr⟩ => ⟨A, n, c, f, e, Nat.le_trans hn (hz k hk), hr⟩
  have HXI := Lib.hid ex_info
  obtain ⟨j0, hj0, hy0, hy1, hy2⟩ := info_parts i64_info
  have HI := Lib.hid hj0
  have HZ0 := Lib.hid hy0
  have HZ1 := Lib.hid hy1
  have HZ2 := Lib.hid hy2
  obtain ⟨G, hG⟩ : ∃ G, w.heap.size = G := ⟨_, rfl⟩
  have HGE := Lib.hid hG
  rw [hG] at HR1 hmk
  clear h hz hi0 hz0 hz1 hz2 ho hg hrow hcc hee hj0 hy0 hy1 hy2 hG
  go_enter Tryz.func62, Tryz.ntmps62
  go_wp2_with fail
  clear hmk
  go_loopw [4, 6, 7, 8, 9, 10, 11, 12, 13] (fun l _ _ _ _ _ _ _ _ wr => ∃ (dn : Nat → Bool) (out : List Int), out.length + cntN dn m = m ∧ Hid (OwnI wr (G + 1) l out) ∧ Hid (Row wr G m 4 (fun j => .bool (dn j))) ∧ Hid (Below w.heap.size w wr)) (fun l _ _ _ _ _ _ _ _ _ => m - lenOf l)
  case atStart => exact ⟨fun _ => false, [], by simp [cntN_zero], Lib.hid (OwnI.nil _ _), HR1, HB1⟩
  case round =>
    clear HB1 HR1
    obtain ⟨dn, out, hcn, HO, HR, HB⟩ := hrel
    obtain ⟨Lo, co, hlo, hio⟩ := HO.out.slice
    subst hlo
    clear hio
    go_wp2_with fail
    go_loopw [6, 7, 8] (fun nx lf ix wr => ∃ (k : Nat) (lv : Bool) (nv : Int), k ≤ m ∧ ix = .int .i64 k ∧ lf = .bool lv ∧ nx = .int .i64 nv ∧ Hid (nv < 0 ∨ ∃ q : Nat, q < m ∧ nv = q ∧ dn q = false) ∧ Hid (OwnI wr (G + 1) (.slice Lo out.length co) out) ∧ Hid (Row wr G m 4 (fun j => .bool (dn j))) ∧ Hid (Below w.heap.size w wr)) (fun _ _ ix _ => m - (intOf ix).toNat)
    case atStart => exact ⟨0, false, -1, Nat.zero_le _, rfl, rfl, rfl, Lib.hid (.inl (by omega)), HO, HR, HB⟩
    case round =>
      clear HO HR HB
      obtain ⟨k, lv, nv, hk, rfl, rfl, rfl, HNV, HO, HR, HB⟩ := hrel
      by_cases hlt : k < m
      · by_cases hnv : nv < 0
        · have hk0 : (0 : Int) ≤ k := by omega
          have hk1 : (k : Int) < m := by omega
          have hnum : IntKind.i64.wrap ((k : Int) + 1) = ((k + 1 : Nat) : Int) := by rw [IntKind.wrap_i64]; omega
          obtain ⟨bb, o, hAa, hbb, hcc⟩ := part_at (f := fun i j => (cs i).cell (P i) j) HX.out hlt (by omega)
          subst hAa
          obtain ⟨kd, hkd⟩ : ∃ z, (cs k).kind = z := ⟨_, rfl⟩
          have c0 : wr.cell? ⟨bb, o + k * 10, none⟩ = some (.int .i64 kd) := by rw [HB.out.cell (p := ⟨bb, o + k * 10, none⟩) hbb, ← hkd]; exact hcc 0 (by omega)
          obtain ⟨dk, hdk⟩ : ∃ z, dn k = z := ⟨_, rfl⟩
          have cd : wr.cell? ⟨G, k, none⟩ = some (.bool dk) := by rw [← hdk]; exact HR.out.cell k hlt
          have HC5 := Lib.hid (HNM.out k hlt _ HB.out)
          have hrg : wr.rangeAt bb (o + k * 10 + 2) ((cs k).e.cells (P k).ea).toList := Ex.range fun j hj => by
            rw [HB.out.cell (p := ⟨bb, o + k * 10 + 2 + j, none⟩) hbb, Nat.add_assoc (o + k * 10), hcc (2 + j) (by omega)]
            match j, hj with
            | 0, _ | 1, _ | 2, _ | 3, _ | 4, _ | 5, _ => rfl
            | j + 6, hj => omega
          obtain ⟨y0, y1, y2, y3, y4, y5, hyy⟩ : ∃ y0 y1 y2 y3 y4 y5, (cs k).e.cells (P k).ea = #[y0, y1, y2, y3, y4, y5] := ⟨_, _, _, _, _, _, (Ex.cells_is _ _).symm⟩
          rw [hyy] at HC5 hrg
          have HRG := Lib.hid hrg
          have HDK := Lib.hid hdk
          clear hyy hrg hcc hkd hdk
          by_cases h1 : kd = 1
          · subst h1
            cases dk with
            | true =>
              go_wp2_with fail
              go_roundw
              case rel => exact ⟨k + 1, lv, nv, by omega, by go_num, rfl, rfl, HNV, HO, HR, HB⟩
              case measure => simp [intOf]; omega
            | false =>
              go_wp2_with (refine wpList_load_mid ?_ 43 (.tmp 42) ?_ bb (o + k * 10 + 2) ?_ _ _ HRG.out Tryz.underlying43 ?_ HXI.out ?_; rfl; rfl; rfl; rfl)
              refine HC5.out.mono ?_
              rintro r w5 ⟨An, nn, cn, fn, rfl, hnn, hsn, hb5⟩
              have HSN := Lib.hid hsn
              replace HO : Hid (OwnI w5 (G + 1) (.slice Lo out.length co) out) := Lib.hid (HO.out.below hb5)
              replace HR := Lib.hid (HR.out.below hb5 HR.out.lt)
              replace HB := Lib.hid (HB.out.trans (hb5.mono HB.out.size))
              clear hsn hb5 HC5 HRG c0 cd
              go_wp2_with fail
              go_loopw [9, 11] (fun rd jx wr => ∃ (j : Nat) (b : Bool), j ≤ nn ∧ jx = .int .i64 j ∧ rd = .bool b ∧ w5 = wr) (fun _ jx _ => nn - (intOf jx).toNat)
              case atStart => exact ⟨0, true, Nat.zero_le _, rfl, rfl, rfl⟩
              case round =>
                obtain ⟨j, b, hj, rfl, rfl, rfl⟩ := hrel
                by_cases hjl : j < nn
                · have hj0 : (0 : Int) ≤ j := by omega
                  have hj1 : (j : Int) < nn := by omega
                  obtain ⟨b2, o2, hAn, hb2, hc2⟩ := Cells.plain HSN.out (by omega)
                  subst hAn
                  obtain ⟨nm, hnm⟩ : ∃ z, fn j = z := ⟨_, rfl⟩
                  have cn0 : w5.cell? ⟨b2, o2 + j, none⟩ = some (.string nm) := by rw [← hnm]; exact hc2 j hjl
                  clear hc2 hnm
                  go_wp2_with fail
                  refine (definition_any (some ⟨bb, o, none⟩) c m cs nm w5 (HCL.out.below HB.out HB.out.size) (by omega)).mono ?_
                  rintro r w6 ⟨⟨d, v, rfl, hdm⟩, rfl⟩
                  have hjn : IntKind.i64.wrap ((j : Int) + 1) = ((j + 1 : Nat) : Int) := by rw [IntKind.wrap_i64]; omega
                  cases b with
                  | false =>
                    go_wp2_with fail
                    go_roundw
                    case rel => exact ⟨j + 1, false, by omega, by go_num, rfl, trivial⟩
                    case measure => simp [intOf]; omega
                  | true =>
                    cases v with
                    | false =>
                      go_wp2_with fail
                      go_roundw
                      case rel => exact ⟨j + 1, true, by omega, by go_num, rfl, trivial⟩
                      case measure => simp [intOf]; omega
                    | true =>
                      have hd0 : (0 : Int) ≤ d := by omega
                      have hd1 : (d : Int) < m := by have := hdm rfl; omega
                      obtain ⟨dd, hdd⟩ : ∃ z, dn d = z := ⟨_, rfl⟩
                      have cd : w5.cell? ⟨G, d, none⟩ = some (.bool dd) := by rw [← hdd]; exact HR.out.cell d (hdm rfl)
                      clear hdd
                      go_wp2_with fail
                      go_roundw
                      case rel => exact ⟨j + 1, dd, by omega, by go_num, rfl, trivial⟩
                      case measure => simp [intOf]; omega
                · have hkn : j = nn := by omega
                  subst hkn
                  have hdd : decide ((j : Int) < j) = false := by rw [decide_eq_false_iff_not]; omega
                  cases b with
                  | false =>
                    go_wp2_with fail
                    go_roundw
                    case rel => exact ⟨k + 1, true, nv, by omega, by go_num, rfl, rfl, HNV, HO, HR, HB⟩
                    case measure => simp [intOf]; omega
                  | true =>
                    have HNK : Hid ((k : Int) < 0 ∨ ∃ q : Nat, q < m ∧ (k : Int) = q ∧ dn q = false) := Lib.hid (.inr ⟨k, hlt, rfl, HDK.out⟩)
                    go_wp2_with fail
                    go_roundw
                    case rel => exact ⟨k + 1, true, k, by omega, by go_num, rfl, rfl, HNK, HO, HR, HB⟩
                    case measure => simp [intOf]; omega
          · have q1 : (kd != 1) = true := by simp [bne, h1]
            have q2 : (kd == 1) = false := by rw [beq_eq_false_iff_ne]; exact h1
            go_wp2_with fail
            go_roundw
            case rel => exact ⟨k + 1, lv, nv, by omega, by go_num, rfl, rfl, HNV, HO, HR, HB⟩
            case measure => simp [intOf]; omega
        · obtain ⟨q, hq, hnq, hdq⟩ : ∃ q : Nat, q < m ∧ nv = q ∧ dn q = false := by
            rcases HNV.out with h | h
            · exact absurd h hnv
            · exact h
          subst hnq
          have hcl := cntN_pos hq hdq
          have hset := cntN_set hq hdq
          have hs : G + 1 ≤ wr.heap.size := HR.out.lt
          have hq0 : (0 : Int) ≤ q := by omega
          have hq1 : (q : Int) < m := by omega
          have hol : out.length < m := by omega
          have hGw : w.heap.size = G := HGE.out
          go_wp2_with ((at_builtin; refine wpList_append_lies _ rfl _ _ 26 rfl (G + 1) 3 j0 _ 1 8 Tryz.underlying26 HI.out HZ0.out HZ1.out HZ2.out rfl (by omega) _ out.length (out.map (Value.int .i64)) rfl (HO.out.alloc _) ⟨wr.heap.size, 0, none⟩ 1 1 [.int .i64 (q : Int)] rfl rfl (World.news_of_block (cs := #[.int .i64 (q : Int)]) (t := 3) (fr := (0, 0)) (heap_alloc_new wr _)) (by simp [Value.oneCell']) (by omega) (by unfold maxLen; omega) (by omega) (by simp; omega) (wr.heap.size + 1) (by simp) ?_; intro g cap w4 hown hgrow hat hlt4); (have hb4 : Below (G + 1) wr w4 := ((Below.refl (G + 1) wr).alloc hs _).grown hgrow (by simp; omega) (fun q hq => (own_lt HO.out hq).2)); (have HR4 := Lib.hid (HR.out.below hb4 (Nat.lt_succ_self G))); (have cq := HR4.out.cell q hq); (have fq := HR4.out.free q))
          have HO4 : Hid (OwnI w4 (G + 1) (.slice (some ⟨g, 0, none⟩) (out.length + 1) cap) (out ++ [(q : Int)])) := Lib.hid (OwnI.snoc hown)
          have HO5 : Hid (OwnI (w4.setCell ⟨G, q, none⟩ (.bool true)) (G + 1) (.slice (some ⟨g, 0, none⟩) (out.length + 1) cap) (out ++ [(q : Int)])) := Lib.hid (own_keeps HO4.out ((Keeps.refl G w4).put q _) (Nat.lt_succ_self G))
          have HR5 : Hid (Row (w4.setCell ⟨G, q, none⟩ (.bool true)) G m 4 (fun j => .bool (if j = q then true else dn j))) := Lib.hid ((HR4.out.put q (.bool true)).congr fun j hj => by split <;> rfl)
          have HB5 : Hid (Below w.heap.size w (w4.setCell ⟨G, q, none⟩ (.bool true))) := Lib.hid ((HB.out.trans (hb4.mono (show w.heap.size ≤ G + 1 by omega))).setCell (show w.heap.size ≤ G by omega) _)
          clear hown hgrow hat hb4 HR4 HO4 HO HR HB cq fq
          go_wp2_with fail
          go_roundw
          case rel => exact ⟨fun j => if j = q then true else dn j, out ++ [(q : Int)], by rw [List.length_append, List.length_singleton]; omega, HO5, HR5, HB5⟩
          case measure => simp [lenOf]; omega
      · have hkn : k = m := by omega
        subst hkn
        have hdd : decide ((k : Int) < k) = false := by rw [decide_eq_false_iff_not]; omega
        by_cases hnv : nv < 0
        · cases lv with
          | true =>
            go_wp2_with fail
            go_ret2
            exact ⟨⟨_, _, _, _, rfl⟩, HB.out⟩
          | false =>
            go_wp2_with fail
            go_ret2
            exact ⟨⟨_, _, _, _, rfl⟩, HB.out⟩
        · obtain ⟨q, hq, hnq, hdq⟩ : ∃ q : Nat, q < k ∧ nv = q ∧ dn q = false := by
            rcases HNV.out with h | h
            · exact absurd h hnv
            · exact h
          subst hnq
          have hcl := cntN_pos hq hdq
          have hset := cntN_set hq hdq
          have hs : G + 1 ≤ wr.heap.size := HR.out.lt
          have hq0 : (0 : Int) ≤ q := by omega
          have hq1 : (q : Int) < k := by omega
          have hol : out.length < k := by omega
          have hGw : w.heap.size = G := HGE.out
          go_wp2_with ((at_builtin; refine wpList_append_lies _ rfl _ _ 26 rfl (G + 1) 3 j0 _ 1 8 Tryz.underlying26 HI.out HZ0.out HZ1.out HZ2.out rfl (by omega) _ out.length (out.map (Value.int .i64)) rfl (HO.out.alloc _) ⟨wr.heap.size, 0, none⟩ 1 1 [.int .i64 (q : Int)] rfl rfl (World.news_of_block (cs := #[.int .i64 (q : Int)]) (t := 3) (fr := (0, 0)) (heap_alloc_new wr _)) (by simp [Value.oneCell']) (by omega) (by unfold maxLen; omega) (by omega) (by simp; omega) (wr.heap.size + 1) (by simp) ?_; intro g cap w4 hown hgrow hat hlt4); (have hb4 : Below (G + 1) wr w4 := ((Below.refl (G + 1) wr).alloc hs _).grown hgrow (by simp; omega) (fun q hq => (own_lt HO.out hq).2)); (have HR4 := Lib.hid (HR.out.below hb4 (Nat.lt_succ_self G))); (have cq := HR4.out.cell q hq); (have fq := HR4.out.free q))
          have HO4 : Hid (OwnI w4 (G + 1) (.slice (some ⟨g, 0, none⟩) (out.length + 1) cap) (out ++ [(q : Int)])) := Lib.hid (OwnI.snoc hown)
          have HO5 : Hid (OwnI (w4.setCell ⟨G, q, none⟩ (.bool true)) (G + 1) (.slice (some ⟨g, 0, none⟩) (out.length + 1) cap) (out ++ [(q : Int)])) := Lib.hid (own_keeps HO4.out ((Keeps.refl G w4).put q _) (Nat.lt_succ_self G))
          have HR5 : Hid (Row (w4.setCell ⟨G, q, none⟩ (.bool true)) G k 4 (fun j => .bool (if j = q then true else dn j))) := Lib.hid ((HR4.out.put q (.bool true)).congr fun j hj => by split <;> rfl)
          have HB5 : Hid (Below w.heap.size w (w4.setCell ⟨G, q, none⟩ (.bool true))) := Lib.hid ((HB.out.trans (hb4.mono (show w.heap.size ≤ G + 1 by omega))).setCell (show w.heap.size ≤ G by omega) _)
          clear hown hgrow hat hb4 HR4 HO4 HO HR HB cq fq
          go_wp2_with fail
          go_roundw
          case rel => exact ⟨fun j => if j = q then true else dn j, out ++ [(q : Int)], by rw [List.length_append, List.length_singleton]; omega, HO5, HR5, HB5⟩
          case measure => simp [lenOf]; omega
end Go.Proofs.YtlbkhhbbkedhkaaGreatDoor
