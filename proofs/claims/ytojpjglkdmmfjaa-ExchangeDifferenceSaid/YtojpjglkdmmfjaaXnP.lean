/- exchange.Normalize. -/
import Derived.Test.YtojpjglkdmmfjaaXnK
import Derived.Maps.OwnSet
import Derived.Maps.OwnOps
import Derived.Maps.Views
namespace Go.Proofs.Ytojpjglkdmmfjaa
open Go.RowKit
set_option linter.unusedVariables false

/-- block B is a map: at every currency the sum of the first k amounts -/
structure MapOf (w : World) (B k : Nat) (D : DataW Unit) (f g : Nat → Int) : Prop where
  own : w.ownsMap Try.prog 3 (plainElem Try.prog 3) B k D
  val : ∀ c : Int, D.atKey (.int .i64 c) (.lit (.int .i64 0)) = .lit (.int .i64 (Xn.tot f g c k))
  ks : ∀ c : Int, Maps.has D (.int .i64 c) = true → ∃ i, i < k ∧ f i = c

theorem wf_of {x : Int} (h0 : -9223372036854775808 ≤ x) (h1 : x ≤ 9223372036854775807) : (Lit.int .i64 x).wf = true := by
  have e1 : IntKind.i64.min = -9223372036854775808 := by decide
  have e2 : IntKind.i64.max = 9223372036854775807 := by decide
  simp only [Lit.wf, e1, e2, Bool.and_eq_true, decide_eq_true_eq]
  exact ⟨h0, h1⟩
theorem own_map_block {w w' : World} {P : Program} {k : TypeId} {R : Value → Option (DataW Unit × List MemPlace)} {b n : Nat} {D : DataW Unit} (h : w.ownsMap P k R b n D) (e : w'.heap[b]? = w.heap[b]?) : w'.ownsMap P k R b n D := by
  obtain ⟨es, clock, hb, Ft, hs, hD⟩ := h
  exact ⟨es, clock, e.trans hb, Ft, hs, hD⟩
section
variable {w w' : World} {B k : Nat} {D : DataW Unit} {f g : Nat → Int}
theorem MapOf.below {b : Nat} (h : MapOf w B k D f g) (hb : Below b w w') (hB : B < b) : MapOf w' B k D f g := ⟨own_map_block h.own (hb.block B hB), h.val, h.ks⟩
set_option maxRecDepth 100000 in
theorem MapOf.put (h : MapOf w B k D f g) {d : DataW Unit} (hd : d = .lit (.int .i64 (Xn.tot f g (f k) k + g k))) (ho : w'.ownsMap Try.prog 3 (plainElem Try.prog 3) B (k + 1) (D.put (.int .i64 (f k)) d)) (hw : (Lit.int .i64 (f k)).wf = true) : MapOf w' B (k + 1) (D.put (.int .i64 (f k)) d) f g := by
  have hm := h.own.isMap
  have hk : WideAt.IsKeyLit (.int .i64 (f k)) := (Maps.int_keyed Try.underlying3).key (Maps.keyOf_int_mk Try.underlying3 hw)
  refine ⟨ho, fun c => ?_, fun c hc => ?_⟩
  · by_cases e : c = f k
    · rw [e, Maps.atKey_put_same hm hk, hd, Xn.tot, if_pos rfl]
    · rw [Maps.atKey_put_other (by intro x; injection x with _ x; exact e x), h.val c, Xn.tot, if_neg (fun x => e x.symm)]
  · by_cases e : c = f k
    · exact ⟨k, by omega, e.symm⟩
    · rw [Maps.has_put_other (by intro x; injection x with _ x; exact e x)] at hc
      obtain ⟨i, hi, hf⟩ := h.ks c hc
      exact ⟨i, by omega, hf⟩
theorem MapOf.zero (w : World) : MapOf (w.alloc (.map #[] 0)) w.heap.size 0 (.map []) f g := ⟨World.ownsMap_made _ _ _ _, fun c => rfl, fun c hc => by cases hc⟩
theorem MapOf.miss (h : MapOf w B k D f g) {c : Int} (hc : Maps.has D (.int .i64 c) = false) : Xn.tot f g c k = 0 := by
  have h1 := h.val c
  rw [Maps.atKey_of_not_has hc] at h1
  injection h1 with h1
  injection h1 with _ h1
  exact h1.symm
set_option maxRecDepth 100000 in
theorem MapOf.keys (h : MapOf w B k D f g) : (intKeys D).Nodup ∧ ∀ x, x ∈ intKeys D ↔ Maps.has D (.int .i64 x) = true := by
  obtain ⟨es, hD, hpw, _⟩ := h.own.entries (Maps.int_keyed Try.underlying3)
  obtain ⟨es', hD', hko⟩ := h.own.keysOf
  obtain rfl : es = es' := by rw [hD] at hD'; simpa using hD'
  subst hD
  have hk : ∀ p ∈ es, ∃ x, p.1 = .int .i64 x := fun p hp => by obtain ⟨v, hv⟩ := hko p hp; obtain ⟨x, _, hx, _⟩ := Go.Maps.keyOf_i64 Try.underlying3 hv; exact ⟨x, hx⟩
  constructor
  · show (es.map fun p => Go.intOf p.1).Nodup
    refine List.pairwise_map.2 (hpw.imp_of_mem fun {p q} hp' hq' hne e => hne ?_)
    obtain ⟨a, ha⟩ := hk p hp'
    obtain ⟨b, hb⟩ := hk q hq'
    rw [ha, hb] at e ⊢
    exact congrArg _ e
  · intro x
    rw [Maps.has_eq, List.any_eq_true]
    show x ∈ es.map (fun p => Go.intOf p.1) ↔ _
    rw [List.mem_map]
    constructor
    · rintro ⟨p, hp', rfl⟩
      obtain ⟨a, ha⟩ := hk p hp'
      exact ⟨p, hp', by rw [ha]; simp [Lit.sameKey, Go.intOf]⟩
    · rintro ⟨p, hp', hs⟩
      obtain ⟨a, ha⟩ := hk p hp'
      rw [ha] at hs
      exact ⟨p, hp', by rw [ha]; simpa [Lit.sameKey, Go.intOf] using hs⟩
/-- the keys in their order are enough for the balance -/
theorem MapOf.sorted (h : MapOf w B k D f g) (hc : ∀ i, i < k → Xc.curP (f i)) {ss : List Int} (hp : ss.Perm (intKeys D)) :
    Xn.bals f g k (ss.mergeSort (fun x y => decide (x ≤ y))) = Xn.bal f g k ∧ Xn.badB f g k (ss.mergeSort (fun x y => decide (x ≤ y))) = Xn.badB f g k (Xn.cus 16) ∧ ∀ c ∈ ss.mergeSort (fun x y => decide (x ≤ y)), 0 ≤ c ∧ c < 16 := by
  obtain ⟨hnd, hmem⟩ := h.keys
  have hperm : (ss.mergeSort (fun x y => decide (x ≤ y))).Perm (intKeys D) := (List.mergeSort_perm ss _).trans hp
  have hle : (ss.mergeSort (fun x y => decide (x ≤ y))).Pairwise (fun a b => decide (a ≤ b) = true) := List.pairwise_mergeSort (fun a b c h1 h2 => by simp only [decide_eq_true_eq] at *; omega) (fun a b => by simp only [Bool.or_eq_true, decide_eq_true_eq]; omega) ss
  have hnd' := hperm.nodup_iff.2 hnd
  have hlt : (ss.mergeSort (fun x y => decide (x ≤ y))).Pairwise (· < ·) := (hle.and hnd').imp fun {a b} hab => by
    have h1 := hab.1
    have h2 := hab.2
    simp only [decide_eq_true_eq] at h1
    omega
  have hs : ∀ c ∈ ss.mergeSort (fun x y => decide (x ≤ y)), 0 ≤ c ∧ c < 16 := fun c hcm => by
    obtain ⟨i, hi, rfl⟩ := h.ks c ((hmem c).1 (hperm.mem_iff.1 hcm))
    have := hc i hi
    unfold Xc.curP at this
    omega
  have hz : ∀ c, c ∉ ss.mergeSort (fun x y => decide (x ≤ y)) → Xn.tot f g c k = 0 := fun c hcm => h.miss (by
    cases e : Maps.has D (.int .i64 c) with
    | false => rfl
    | true => exact absurd (hperm.mem_iff.2 ((hmem c).2 e)) hcm)
  obtain ⟨h1, h2⟩ := Xn.bals_keys hlt hs hz
  exact ⟨h1, h2, hs⟩
end
theorem own_base {w : World} {base base' : Nat} {e : TypeId} {size n : Nat} {v : Value} {xs : List Value} (h : w.ownsRow base' e size v n xs) (hb : base ≤ base') : w.ownsRow base e size v n xs := by
  refine ⟨h.1, ?_⟩
  rcases h.2 with h0 | ⟨g, cap, cur, hv, hg, hr⟩
  · exact .inl h0
  · exact .inr ⟨g, cap, cur, hv, by omega, hr⟩
theorem nums_of_list {w : World} {base : Nat} {n c : Nat} {A : Option Addr} {l : List Int} (h : w.ownsRow base 3 1 (.slice A n c) n (l.map encZ)) : Nums w w.heap.size A n (fun j => l.getD j 0) := by
  have := Cells.of_own h (fun j => .int .i64 (l.getD j 0)) fun j hj => by
    rw [List.length_map] at hj
    simp [List.getD, List.getElem?_eq_getElem hj]
  rwa [Nat.mul_one] at this

set_option maxRecDepth 100000 in
set_option maxHeartbeats 4000000 in
theorem norm_any (A : Option Addr) (n c : Nat) (f g : Nat → Int) (w : World) (hn : n ≤ 1000) (hp : Pairs w w.heap.size A n f g) :
    Calls Try.prog 19 #[.slice A n c] w (NormPost (Xn.nerr f g n) (Xn.bal f g n) w) := by
  have hn0 : (0 : Int) ≤ n := by omega
  have hn1 : (n : Int) ≤ 1000 := by omega
  obtain ⟨S, hS⟩ : ∃ S, scan (Xn.cc f g) (n - 0) 0 = S := ⟨_, rfl⟩
  have HNE : Hid (Xn.nerr f g n = if S ≠ 0 then S else if Xn.badB f g n (Xn.cus 16) = true then 3 else 0) := Lib.hid (by rw [Xn.nerr, if_neg (by omega), show scan (Xn.cc f g) n 0 = S from hS])
  have HS1 := Lib.hid hS
  have HP := Lib.hid hp
  obtain ⟨i0, hi0, hz0, hz1, hz2⟩ := info_parts cash_info
  have HI := Lib.hid hi0
  have HZ0 := Lib.hid hz0
  have HZ1 := Lib.hid hz1
  have HZ2 := Lib.hid hz2
  clear hp hS hi0 hz0 hz1 hz2
  have hmm := @run_makeMap Try.prog
  go_enter Try.func19, Try.ntmps19
  go_wp2_with fail
  clear hmm
  obtain ⟨B, hB⟩ : ∃ B, w.heap.size = B := ⟨_, rfl⟩
  have HM0 : Hid (MapOf (w.alloc (.map #[] 0)) B 0 (.map []) f g) := Lib.hid (by rw [← hB]; exact MapOf.zero w)
  have HB0 : Hid (Below w.heap.size w (w.alloc (.map #[] 0))) := Lib.hid ((Below.refl _ _).alloc (Nat.le_refl _) _)
  have hwB : w.heap.size ≤ B := by omega
  rw [hB]
  clear hB
  go_loopw [6, 17] (fun _ i wr => ∃ (k : Nat) (D : DataW Unit), k ≤ n ∧ i = .int .i64 k ∧ Hid (scan (Xn.cc f g) (n - k) k = S) ∧ Hid (∀ j, j < k → Xc.curP (f j) ∧ Am.validB (g j) = true) ∧ Hid (MapOf wr B k D f g) ∧ Hid (Below w.heap.size w wr)) (fun _ i _ => n - (intOf i).toNat)
  case atStart => exact ⟨0, _, Nat.zero_le _, rfl, HS1, Lib.hid fun j hj => absurd hj (by omega), HM0, HB0⟩
  case round =>
    clear HM0 HB0
    obtain ⟨k, D, hk, rfl, HS, HF, HM, HB⟩ := hrel
    have hs := HB.out.size
    by_cases hlt : k < n
    · obtain ⟨b, o, rfl, had, hc0, hc1⟩ := ((HP.out.below HB.out).mono hs).get hlt
      have hk0 : (0 : Int) ≤ k := by omega
      have hk1 : (k : Int) < n := by omega
      obtain ⟨x, hx⟩ : ∃ x, f k = x := ⟨_, rfl⟩
      obtain ⟨y, hy⟩ : ∃ x, g k = x := ⟨_, rfl⟩
      rw [hx] at hc0
      rw [hy] at hc1
      by_cases g1 : Xc.curP x
      · have HG1 := Lib.hid g1
        cases g2 : Am.validB y with
        | true =>
          have HG2 := Lib.hid g2
          have HG : Hid (scan (Xn.cc f g) (n - (k + 1)) (k + 1) = S) := Lib.hid (by rw [← scan_go _ hlt (by rw [Xn.cc, hx, hy, if_neg (fun c => c g1), if_neg (by rw [g2]; simp)])]; exact HS.out)
          have HF2 : Hid (∀ j, j < k + 1 → Xc.curP (f j) ∧ Am.validB (g j) = true) := Lib.hid fun j hj => by
            by_cases e : j = k
            · rw [e, hx, hy]; exact ⟨g1, g2⟩
            · exact HF.out j (by omega)
          have hxb : 0 ≤ x ∧ x ≤ 15 := g1
          obtain ⟨xb0, xb1⟩ := hxb
          have htb := Xn.tot_bound (f := f) (g := g) (M := 17592186044416) (c := x) k (fun i hi => Xn.val_bound (HF.out i (by omega)).2)
          have hyb := Xn.val_bound g2
          have hval := HM.out.val x
          have HPUT := Lib.hid (fun (w' : World) (d : DataW Unit) => MapOf.put (w' := w') (d := d) HM.out)
          obtain ⟨s, hs'⟩ : ∃ s, Xn.tot f g x k = s := ⟨_, rfl⟩
          rw [hx, hy, hs'] at HPUT
          rw [hs'] at htb hval
          have HVAL := Lib.hid hval
          have hsb : -17592186044416000 ≤ s ∧ s ≤ 17592186044416000 := by omega
          obtain ⟨sb0, sb1⟩ := hsb
          obtain ⟨yb0, yb1⟩ := hyb
          have HKEY := Lib.hid (Maps.keyOf_int_mk Try.underlying3 (wf_of (x := x) (by omega) (by omega)))
          have HWX := Lib.hid (wf_of (x := x) (by omega) (by omega))
          have HWS := Lib.hid (wf_of (x := s + y) (by omega) (by omega))
          have hBl := HM.out.own.lt
          clear g1 g2 hx hy HS htb hs' hval
          go_wp2_with fail
          refine (cv_yes HG1.out _).mono ?_
          rintro e w' ⟨rfl, rfl⟩
          go_wp2_with fail
          refine (val_is HG2.out _).mono ?_
          rintro e w' ⟨rfl, rfl⟩
          go_wp2_with (first
            | (at_lookup; refine wpList_lookup_own_int _ rfl _ _ 57 rfl 3 3 .i64 (Maps.int_keyed Try.underlying3) Try.underlying57 Try.underlying3 (Try.zeroValue3 _) B k D rfl (HM.out.own.alloc _) _ _ rfl HKEY.out ?_; intro s2 hat hwc; obtain rfl : s2 = s := (by simpa using hat.symm.trans HVAL.out))
            | (at_mapUpdate; refine wpList_mapUpdate_own _ rfl _ _ _ 57 rfl 3 3 (Maps.int_keyed Try.underlying3) Try.underlying57 _ B k D rfl (HM.out.own.alloc _) (by unfold maxLen; omega) _ _ (.int .i64 x) rfl rfl HKEY.out (.lit (.int .i64 (s2 + y))) [] (plainElem_int Try.underlying3 HWS.out) ?_; intro w1 hown1 hgrow1))
          have HM2 := Lib.hid (HPUT.out w1 _ rfl hown1 HWX.out)
          have HB2 : Hid (Below w.heap.size w w1) := Lib.hid ((HB.out.alloc hs _).grown hgrow1 (by simp; omega) (fun q e => by cases e; exact hwB))
          clear hown1 hgrow1 HPUT HVAL hat hwc
          go_roundw
          case rel => exact ⟨k + 1, _, by omega, by go_num, HG, HF2, HM2, HB2⟩
          case measure => simp [intOf]; omega
        | false =>
          have HG2 := Lib.hid g2
          have he : Xn.cc f g k = 1 := by rw [Xn.cc, hx, hy, if_neg (fun c => c g1), if_pos g2]
          have HG : Hid (S = 1) := Lib.hid (by rw [← HS.out, scan_stop _ hlt (by rw [he]; omega), he])
          clear g1 g2 hx hy HS he
          go_wp2_with fail
          refine (cv_yes HG1.out _).mono ?_
          rintro e w' ⟨rfl, rfl⟩
          go_wp2_with fail
          refine (val_is HG2.out _).mono ?_
          rintro e w' ⟨rfl, rfl⟩
          go_wp2_with fail
          go_ret2
          exact by rw [HNE.out, HG.out, if_pos (by omega)]; exact NormPost.fail (by omega) (HB.out.alloc hs _)
      · have HG1 := Lib.hid g1
        have he : Xn.cc f g k = 15 := by rw [Xn.cc, hx, if_pos g1]
        have HG : Hid (S = 15) := Lib.hid (by rw [← HS.out, scan_stop _ hlt (by rw [he]; omega), he])
        clear g1 hx hy HS he
        go_wp2_with fail
        refine (cv_no HG1.out _).mono ?_
        rintro e w' ⟨rfl, rfl⟩
        go_wp2_with fail
        go_ret2
        exact by rw [HNE.out, HG.out, if_pos (by omega)]; exact NormPost.fail (by omega) (HB.out.alloc hs _)
    · obtain rfl : k = n := by omega
      have HS0 : Hid (S = 0) := Lib.hid (by rw [← HS.out, scan_end])
      have hsz := HM.out.own.size_le
      have CS := Lib.hid (sorted_any B k D _ wr HM.out.own (by unfold maxLen; omega) (by omega))
      clear HS hsz
      go_wp2_with fail
      refine (keys_any _ _).mono ?_
      rintro e w' ⟨rfl, rfl⟩
      go_wp2_with fail
      refine CS.out.mono ?_
      rintro e w2 ⟨v, ss, rfl, hperm, hrow, hnil, hb⟩
      have hml : (ss.mergeSort (fun x y => decide (x ≤ y))).length = ss.length := List.length_mergeSort ss
      obtain ⟨hK1, hK2, hK3⟩ := HM.out.sorted (fun i hi => (HF.out i hi).1) hperm
      have HMW : Hid (MapOf w2 B k D f g) := Lib.hid (HM.out.below hb HM.out.own.lt)
      replace HB : Hid (Below w.heap.size w w2) := Lib.hid (HB.out.trans (hb.mono hs))
      obtain ⟨K, hK⟩ : ∃ K, ss.mergeSort (fun x y => decide (x ≤ y)) = K := ⟨_, rfl⟩
      rw [hK] at hrow hK1 hK2 hK3 hml
      obtain ⟨m, hm⟩ : ∃ m, ss.length = m := ⟨_, rfl⟩
      rw [hm] at hrow hml
      obtain ⟨A', cap, rfl⟩ : ∃ A' cap, v = .slice A' m cap := by
        rcases hrow.2 with ⟨hv, hv0⟩ | ⟨g', cap, cur, hv, _⟩
        · exact ⟨none, 0, by rw [hv, hv0]⟩
        · exact ⟨_, cap, hv⟩
      have HNU := Lib.hid (nums_of_list hrow)
      have HK1 := Lib.hid hK1
      have HK2 := Lib.hid hK2
      have HK3 := Lib.hid hK3
      have HML := Lib.hid hml
      have hm16 : m ≤ 1000 := by
        have h1 := hperm.length_eq
        have h2 := HM.out.own.size_le
        obtain ⟨es, hD, _⟩ := HM.out.own.entries (Maps.int_keyed Try.underlying3)
        rw [hD] at h1 h2
        simp only [intKeys, List.length_map, Maps.size_eq] at h1 h2
        omega
      clear hperm hrow hnil hb hK hm hK1 hK2 hK3 hml CS HM
      obtain ⟨base, hbase⟩ : ∃ b, w2.heap.size = b := ⟨_, rfl⟩
      have hb2 : base ≤ w2.heap.size := by omega
      have hbw : w.heap.size ≤ base := by have := HB.out.size; omega
      have hBb : B < base := by have := HMW.out.own.lt; omega
      rw [hbase] at HNU
      clear hbase
      have hs2 := HB.out.size
      go_wp2_with fail
      go_loopw [7, 9, 10, 41] (fun v _ _ i wr => ∃ j : Nat, j ≤ m ∧ i = .int .i64 j ∧ Hid (Xn.badB f g k (K.take j) = false) ∧ Hid (wr.ownsRow base 37 2 v (Xn.bals f g k (K.take j)).length (cellsOf (Xn.bals f g k (K.take j)))) ∧ Hid (Below base w2 wr)) (fun _ _ _ i _ => m - (intOf i).toNat)
      case atStart => exact ⟨0, Nat.zero_le _, rfl, Lib.hid rfl, Lib.hid ⟨rfl, .inl ⟨rfl, rfl⟩⟩, Lib.hid (Below.refl _ _)⟩
      case round =>
        obtain ⟨j, hj, rfl, HBD, HO, HE⟩ := hrel
        have hse := HE.out.size
        by_cases hjl : j < m
        · have hj0 : (0 : Int) ≤ j := by omega
          have hj1 : (j : Int) < m := by omega
          have hlen := HML.out
          have htk : K.take (j + 1) = K.take j ++ [K.getD j 0] := by
            rw [List.take_succ_eq_append_getElem (by omega)]
            simp [List.getD, List.getElem?_eq_getElem (show j < K.length by omega)]
          have hmem : K.getD j 0 ∈ K := by
            have e : K.getD j 0 = K[j]'(by omega) := by simp [List.getD, List.getElem?_eq_getElem (show j < K.length by omega)]
            rw [e]
            exact List.getElem_mem _
          obtain ⟨b', o', rfl, hbl', hq0⟩ := (HNU.out.below HE.out).get hjl
          have HMR := Lib.hid (HMW.out.below HE.out hBb)
          obtain ⟨cN, hcN⟩ : ∃ c, K.getD j 0 = c := ⟨_, rfl⟩
          simp only [hcN] at hq0
          rw [hcN] at htk hmem
          have hcb := HK3.out cN hmem
          obtain ⟨cb0, cb1⟩ := hcb
          have hbs := Xn.bals_snoc (f := f) (g := g) k (K.take j) cN
          have hbd := Xn.badB_snoc (f := f) (g := g) k (K.take j) cN
          rw [← htk] at hbs hbd
          rw [HBD.out, Bool.false_or] at hbd
          have hbl := Xn.bals_length (f := f) (g := g) k (K.take j)
          have hbl2 : (K.take j).length ≤ j := List.length_take_le _ _
          have hval := HMR.out.val cN
          obtain ⟨s, hs'⟩ : ∃ x, Xn.tot f g cN k = x := ⟨_, rfl⟩
          rw [hs'] at hbs hbd hval
          obtain ⟨L, hL⟩ : ∃ L, Xn.bals f g k (K.take j) = L := ⟨_, rfl⟩
          rw [hL] at HO hbs hbl
          have hLl : L.length ≤ 1000 := by omega
          have HBS := Lib.hid hbs
          have HVAL := Lib.hid hval
          have HKEY := Lib.hid (Maps.keyOf_int_mk Try.underlying3 (wf_of (x := cN) (by omega) (by omega)))
          cases hv : Am.validB s with
          | false =>
            have HV := Lib.hid hv
            have HBB : Hid (Xn.badB f g k (Xn.cus 16) = true) := Lib.hid (by
              rw [← HK2.out]
              unfold Xn.badB
              rw [List.any_eq_true]
              exact ⟨cN, hmem, by rw [hs', hv]; rfl⟩)
            clear hv hbd hbs hL HBS hval hcN hmem htk hbl hbl2
            go_wp2_with ((at_lookup; refine wpList_lookup_own_int _ rfl _ _ 57 rfl 3 3 .i64 (Maps.int_keyed Try.underlying3) Try.underlying57 Try.underlying3 (Try.zeroValue3 _) B k D rfl HMR.out.own _ _ rfl HKEY.out ?_; intro s2 hat hwc; obtain rfl : s2 = s := (by simpa using hat.symm.trans HVAL.out)))
            refine (val_is HV.out _).mono ?_
            rintro e w' ⟨rfl, rfl⟩
            go_wp2_with fail
            go_ret2
            exact by rw [HNE.out, HS0.out, if_neg (fun c => c rfl), if_pos HBB.out]; exact NormPost.fail (by omega) (HB.out.trans (HE.out.mono hbw))
          | true =>
            have HV := Lib.hid hv
            rw [hv] at hbd
            have HBD2 : Hid (Xn.badB f g k (K.take (j + 1)) = false) := Lib.hid (by rw [hbd]; rfl)
            clear hv hbd hbs hL HBD hval hcN hmem htk hbl hbl2 hs'
            by_cases hz : s = 0
            · subst hz
              rw [if_pos rfl, List.append_nil] at HBS
              go_wp2_with ((at_lookup; refine wpList_lookup_own_int _ rfl _ _ 57 rfl 3 3 .i64 (Maps.int_keyed Try.underlying3) Try.underlying57 Try.underlying3 (Try.zeroValue3 _) B k D rfl HMR.out.own _ _ rfl HKEY.out ?_; intro s2 hat hwc; obtain rfl : s2 = 0 := (by simpa using hat.symm.trans HVAL.out)))
              refine (val_is HV.out _).mono ?_
              rintro e w' ⟨rfl, rfl⟩
              go_wp2_with fail
              go_roundw
              case rel => exact ⟨j + 1, by omega, by go_num, HBD2, by rw [HBS.out]; exact HO, HE⟩
              case measure => simp [intOf]; omega
            · have hz' : (s != 0) = true := by rw [bne_iff_ne]; exact hz
              rw [if_neg hz] at HBS
              have HP2 : Hid (cellsOf (L ++ [(cN, s)]) = cellsOf L ++ [.int .i64 cN, .int .i64 s]) := Lib.hid (cellsOf_snoc L (cN, s))
              clear hz
              go_wp2_with ((at_lookup; refine wpList_lookup_own_int _ rfl _ _ 57 rfl 3 3 .i64 (Maps.int_keyed Try.underlying3) Try.underlying57 Try.underlying3 (Try.zeroValue3 _) B k D rfl HMR.out.own _ _ rfl HKEY.out ?_; intro s2 hat hwc; obtain rfl : s2 = s := (by simpa using hat.symm.trans HVAL.out)))
              refine (val_is HV.out _).mono ?_
              rintro e w' ⟨rfl, rfl⟩
              clear HVAL hat hwc
              go_wp2_with ((at_builtin; refine wpList_append_lies _ rfl _ _ 42 rfl base 37 i0 _ 2 16 Try.underlying42 HI.out HZ0.out HZ1.out HZ2.out rfl (by omega) u7 L.length (cellsOf L) rfl (HO.out.alloc _) ⟨wr.heap.size, 0, none⟩ 1 1 [.int .i64 cN, .int .i64 s2] rfl rfl (World.news_of_block (cs := #[.int .i64 cN, .int .i64 s2]) (t := 37) (fr := (0, 0)) (heap_alloc_new wr _)) (by simp [Value.oneCell']) (by omega) (by unfold maxLen; omega) (by omega) (by simp; omega) (wr.heap.size + 1) (by simp) ?_; intro gg cap w4 hown hgrow hat hlt; have HO2 : Hid (w4.ownsRow base 37 2 (.slice (some ⟨gg, 0, none⟩) (L.length + 1) cap) (L ++ [(cN, s2)]).length (cellsOf (L ++ [(cN, s2)]))) := Lib.hid (by rw [HP2.out]; simpa using hown); have HE2 : Hid (Below base w2 w4) := Lib.hid ((HE.out.alloc (by omega) _).grown hgrow (by simp; omega) fun q hq => by obtain ⟨_, _, hg⟩ := own_form HO.out hq; exact hg); clear hown hgrow hat))
              go_roundw
              case rel => exact ⟨j + 1, by omega, by go_num, HBD2, by rw [HBS.out]; exact HO2, HE2⟩
              case measure => simp [intOf]; omega
        · obtain rfl : j = m := by omega
          rw [List.take_of_length_le (by rw [HML.out]; exact Nat.le_refl _), HK1.out] at HO
          rw [List.take_of_length_le (by rw [HML.out]; exact Nat.le_refl _), HK2.out] at HBD
          obtain ⟨A2, m2, cap2, rfl, hm2⟩ : ∃ A' m' cap, u7 = .slice A' m' cap ∧ m' = (Xn.bal f g k).length := by
            rcases HO.out.2 with ⟨hv, hv0⟩ | ⟨g', cap, cur, hv, _⟩
            · exact ⟨none, 0, 0, hv, hv0.symm⟩
            · exact ⟨_, _, cap, hv, rfl⟩
          have HMM := Lib.hid hm2
          clear hm2
          go_wp2_with fail
          go_ret2
          exact by rw [HNE.out, HS0.out, if_neg (fun c => c rfl), if_neg (by rw [HBD.out]; simp)]; exact NormPost.of_own (HB.out.trans (HE.out.mono hbw)) (own_base HO.out hbw) HMM.out
end Go.Proofs.Ytojpjglkdmmfjaa
