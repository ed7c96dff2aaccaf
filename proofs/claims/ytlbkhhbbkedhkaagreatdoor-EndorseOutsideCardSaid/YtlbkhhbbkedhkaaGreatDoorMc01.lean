/- The reference's InForce: a list of clauses of the wording, or an error. The reference's WordingError: returns, and writes nothing that was there. Law 09: what is in force does not change between change points; an endorsement outside of its period. Plain. Deck.Wording: what is known of the wording that it makes. -/
import Derived.Test.YtlbkhhbbkedhkaaGreatDoorMa27
import Derived.Test.YtlbkhhbbkedhkaaGreatDoorMa16
import Derived.Test.YtlbkhhbbkedhkaaGreatDoorMa26
import Derived.Test.YtlbkhhbbkedhkaaGreatDoorMa29
import Derived.Test.YtlbkhhbbkedhkaaGreatDoorMa28
import Derived.Test.YtlbkhhbbkedhkaaGreatDoorMa30
namespace Go.Proofs.YtlbkhhbbkedhkaaGreatDoor
open Go.RowKit
set_option linter.unusedVariables false

/-- a list of the call's own (from block B on), of clauses that lie in memory that came in -/
structure LisR (B : Nat) (w wr : World) (A : Option Addr) (n c : Nat) (zs : Nat → Cl × WA) : Prop where
  below : Below w.heap.size w wr
  base : w.heap.size ≤ B ∧ B ≤ wr.heap.size
  row : wr.ownsRow B 46 10 (.slice A n c) n (rowL (n * 10) (rowF 10 clC zs))
  elem : ∀ i, i < n → clQ (fun b => b < w.heap.size) wr (zs i)
theorem own_down {w : World} {base base' size n : Nat} {e : TypeId} {v : Value} {xs : List Value} (h : w.ownsRow base e size v n xs) (hb : base' ≤ base) : w.ownsRow base' e size v n xs :=
  ⟨h.1, h.2.imp id fun ⟨g, cap, cur, h1, h2, h3⟩ => ⟨g, cap, cur, h1, Nat.le_trans hb h2, h3⟩⟩
section
variable {B B' D : Nat} {w wr w7 : World} {A : Option Addr} {n c g cap k : Nat} {zs : Nat → Cl × WA} {t : TypeId}
theorem LisR.nil (h : Below w.heap.size w wr) (hB : w.heap.size ≤ B ∧ B ≤ wr.heap.size) : LisR B w wr none 0 0 zs := ⟨h, hB, World.ownsRow_nil _ _ _ _, fun i hi => by omega⟩
theorem LisR.down (h : LisR B w wr A n c zs) (hB : w.heap.size ≤ B' ∧ B' ≤ B) : LisR B' w wr A n c zs := ⟨h.below, ⟨hB.1, by have := h.base; omega⟩, own_down h.row hB.2, h.elem⟩
/-- behind a change of blocks from D on; the list lies below D -/
theorem LisR.later (h : LisR B w wr A n c zs) (hb : Below D wr w7) (hD : w.heap.size ≤ D) (hA : ∀ q, (Value.slice A n c).ownBlock = some q → q < D) : LisR B w w7 A n c zs :=
  ⟨h.below.trans (hb.mono hD), ⟨h.base.1, by have := h.base; have := hb.size; omega⟩, own_leaves (S := fun q => D ≤ q) h.row ⟨hb.os, hb.tape, hb.output, hb.size, fun q _ hq => hb.block q (Nat.lt_of_not_le hq)⟩ (fun q hq => by have := hA q hq; omega), fun i hi => clQ_moves _ _ _ _ _ (h.elem i hi) (fun b o hS => hb.cell (p := ⟨b, o, none⟩) (by simp only; omega)) fun b hS => hS⟩
theorem LisR.lt (h : LisR B w wr A n c zs) : ∀ q, (Value.slice A n c).ownBlock = some q → q < wr.heap.size := fun q hq => (own_lt h.row hq).1
theorem LisR.next (h : LisR B w wr A n c zs) (hb : Below wr.heap.size wr w7) : LisR B w w7 A n c zs := h.later hb h.below.size h.lt
theorem LisR.cls (h : LisR B w wr A n c zs) (hn : n ≤ 1000) : ClsAt wr wr.heap.size A n fun i => (zs i).1 :=
  ⟨by unfold big; omega, fun i => (zs i).2, Cells.of_own h.row (rowF 10 clC zs) (fun j hj => by simp [rowL]), fun i hi => (h.elem i hi).1.to fun b hb => by have := h.below.size; omega⟩
theorem LisR.get (h : LisR B w wr A n c zs) (hk : k < n) : ∃ b, A = some ⟨b, 0, none⟩ ∧ B ≤ b ∧ b < wr.heap.size ∧ wr.rangeAt b (k * 10) ((zs k).1.cells (zs k).2).toList := by
  rcases h.row.2 with ⟨e0, e1⟩ | ⟨b, cap', cur, e0, hg, hh, hr⟩
  · omega
  · injection e0 with e0 _ e2
    subst e0
    have h1 := h.row
    have := own_lt h1 rfl
    exact ⟨b, rfl, this.2, this.1, Cl.range fun j hj => by
      have hc := h1.cellAt (k * 10 + j) (by omega)
      rw [rowL_get _ _ _ (by omega)] at hc
      rw [hc]
      unfold rowF
      rw [show (k * 10 + j) / 10 = k by omega, show (k * 10 + j) % 10 = j by omega]⟩
theorem LisR.snoc {ys : Array Value} {x : Cl × WA} (h : LisR B w wr A n c zs) (hx : clQ (fun b => b < w.heap.size) wr x) (hgrow : (wr.alloc (.cells ys t)).grownBy w7 (Value.slice A n c).ownBlock) (hown : w7.ownsRow B 46 10 (.slice (some ⟨g, 0, none⟩) (n + 1) cap) (n + 1) (rowL (n * 10) (rowF 10 clC zs) ++ (x.1.cells x.2).toList)) :
    LisR B w w7 (some ⟨g, 0, none⟩) (n + 1) cap (updN zs n x) ∧ Below B wr w7 := by
  have hs := h.base
  have hb : Below B wr w7 := Below.grown (Below.alloc (Below.refl _ _) hs.2 _) hgrow (by simp; omega) (fun q hq => (own_lt h.row hq).2)
  have hs7 := hb.size
  refine ⟨⟨h.below.trans (hb.mono hs.1), ⟨hs.1, by omega⟩, ?_, fun i hi => ?_⟩, hb⟩
  · rw [rowF_snoc (s := 10) (vs := (x.1.cells x.2).toList) (cf := clC) (x := x) (by rw [Array.length_toList]; rfl) (fun j hj => Cl.cells_get _ _ _ hj)] at hown
    exact hown
  · by_cases e : i = n
    · subst e
      rw [updN_at]
      exact clQ_moves _ _ _ _ _ hx (fun b o hS => hb.cell (p := ⟨b, o, none⟩) (by simp only; omega)) fun b hS => hS
    · rw [updN_lt (by omega)]
      exact clQ_moves _ _ _ _ _ (h.elem i (by omega)) (fun b o hS => hb.cell (p := ⟨b, o, none⟩) (by simp only; omega)) fun b hS => hS
/-- an element of a list that came in -/
theorem cls_elem {cs : Nat → Cl} (h : ClsAt w w.heap.size A n cs) (hb : Below w.heap.size w wr) (hk : k < n) (hok : (cs k).ok) : ∃ pa b o, A = some ⟨b, o, none⟩ ∧ b < w.heap.size ∧ clQ (fun b => b < w.heap.size) wr (cs k, pa) ∧ wr.rangeAt b (o + k * 10) ((cs k).cells pa).toList := by
  obtain ⟨pa, b, o, e, hbb, hx, hr⟩ := h.later hb (Nat.le_refl _) hk
  exact ⟨pa, b, o, e, hbb, ⟨ClIn.of hx, hok⟩, hr⟩
end
def noZ : Nat → Cl × WA := fun _ => (.mk 0 ByteArray.empty .bot 0 (fun _ => .bot) 0, ⟨⟨none, 0, none, 0⟩, none, 0⟩)
/-- some list of clauses that came in, and an error -/
def InfW (w : World) (r : Ending) (w' : World) : Prop := ∃ (A : Option Addr) (n c : Nat) (e : Int) (zs : Nat → Cl × WA), r = .returned (.tuple #[.slice A n c, .int .i64 e]) ∧ n ≤ 1000 ∧ LisR w.heap.size w w' A n c zs
theorem InfW.err {w w' : World} (e : Int) (h : Below w.heap.size w w') : InfW w (.returned (.tuple #[.slice none 0 0, .int .i64 e])) w' :=
  ⟨none, 0, 0, e, noZ, rfl, by omega, .nil h ⟨Nat.le_refl _, h.size⟩⟩

set_option maxRecDepth 100000 in
set_option maxHeartbeats 6000000 in
theorem rinforce_any (x : Wr) (A E : Option Addr) (ca ce : Nat) (h : Int) (w : World) (hx : WrAt w w.heap.size x A E) :
    Calls Tryz.prog 66 #[.agg #[.slice A x.nc ca, .slice E x.ne ce], .int .i64 h] w (InfW w) := by
  have HWV : Hid (∀ W, Below w.heap.size w W → Calls Tryz.prog 23 #[.agg #[.slice A x.nc ca, .slice E x.ne ce]] W (IffPost x.ok W)) := Lib.hid fun W hb => rwording_any x A E ca ce W (hx.below hb hb.size)
  have HOK : Hid (x.ok → (x.nc ≤ 40 ∧ ∀ k, k < x.nc → (x.cs k).ok) ∧ ∀ i, i < x.ne → (x.es i).ok) := Lib.hid fun h => ⟨h.1.2, h.2⟩
  obtain ⟨nc, cs, ne, es⟩ := x
  have HCL : Hid (ClsAt w w.heap.size A nc cs) := Lib.hid hx.1
  have HEN : Hid (EnsAt w w.heap.size E ne es) := Lib.hid hx.2
  obtain ⟨xo, hxo⟩ : ∃ P : Prop, (Wr.mk nc cs ne es).ok = P := ⟨_, rfl⟩
  rw [hxo] at HWV HOK
  simp only at HWV HOK
  have HCI := Lib.hid cl_info
  have HNI := Lib.hid en_info
  obtain ⟨i0, hi0, hz0, hz1, hz2⟩ := info_parts cl_all
  have HI := Lib.hid hi0
  have HZ0 := Lib.hid hz0
  have HZ1 := Lib.hid hz1
  have HZ2 := Lib.hid hz2
  clear hx hxo hi0 hz0 hz1 hz2
  obtain ⟨G, hG⟩ : ∃ G, w.heap.size = G := ⟨_, rfl⟩
  have HGE := Lib.hid hG
  go_enter Tryz.func66, Tryz.ntmps66
  go_upto_region 1 with (fail)
  have HB : Hid (Below w.heap.size w (w.alloc (.cells #[.slice A nc ca, .slice E ne ce] 25))) := Lib.hid ((Below.refl _ _).alloc (Nat.le_refl _) _)
  have HE := Lib.hid (Has.new w #[.slice A nc ca, .slice E ne ce] 25)
  obtain ⟨W, hW⟩ : ∃ W, w.alloc (.cells #[.slice A nc ca, .slice E ne ce] 25) = W := ⟨_, rfl⟩
  rw [hW] at HB HE ⊢
  rw [hG] at HE
  try rw [hG]
  clear hW hG
  have hGw : w.heap.size = G := HGE.out
  obtain ⟨e0, e1, e2⟩ := HE.out.rules
  go_wp2_with fail
  refine (HWV.out _ HB.out).mono ?_
  rintro r w1 ⟨bv, rfl, hbv, hb⟩
  replace HE := Lib.hid (HE.out.below hb e2)
  replace HB := Lib.hid (HB.out.trans (hb.mono HB.out.size))
  clear hb e0 e1 e2 HWV
  obtain ⟨e0, e1, e2⟩ := HE.out.rules
  cases bv with
  | false =>
    clear hbv HOK
    go_wp2_with fail
    go_ret2
    exact InfW.err _ HB.out
  | true =>
    obtain ⟨⟨hnc, hcok⟩, heok⟩ := HOK.out (hbv.1 rfl)
    have HCOK := Lib.hid hcok
    have HEOK := Lib.hid heok
    clear hbv HOK hcok heok
    go_wp2_with fail
    refine (rhours_any h _).mono ?_
    rintro r w2 ⟨rfl, rfl⟩
    by_cases hh : hourB h = true
    · rw [hh]
      go_wp2_with fail
      have hGs : G + 1 ≤ w1.heap.size := e2
      go_loopw [6, 7] (fun l i wr => ∃ (k c : Nat) (Al : Option Addr) (zs : Nat → Cl × WA), k ≤ nc ∧ i = .int .i64 k ∧ l = .slice Al k c ∧ Hid (LisR (G + 1) w wr Al k c zs) ∧ Hid (Has wr G #[.slice A nc ca, .slice E ne ce] 25)) (fun _ i _ => nc - (intOf i).toNat)
      case atStart => exact ⟨0, 0, none, noZ, Nat.zero_le _, rfl, rfl, Lib.hid (.nil HB.out ⟨by omega, hGs⟩), HE⟩
      case round =>
        clear HB HE e0 e1 e2 hh hGs
        obtain ⟨k, c, Al, zs, hk, rfl, rfl, HL, HE⟩ := hrel
        obtain ⟨e0, e1, e2⟩ := HE.out.rules
        by_cases hlt : k < nc
        · obtain ⟨pa, b, o, hA, hbb, hxq, hrg⟩ := cls_elem HCL.out HL.out.below hlt (HCOK.out k hlt)
          subst hA
          have hnm : wr.cell? ⟨b, o + k * 10 + 1, none⟩ = some (.string (cs k).name) := hrg 1 _ rfl
          have HXQ := Lib.hid hxq
          obtain ⟨x0, x1, x2, x3, x4, x5, hcs, _, hc1⟩ := Cl.cells_ex (cs k) pa
          rw [hcs] at hrg
          have HRG := Lib.hid hrg
          have HCS := Lib.hid hcs
          have HC1 := Lib.hid hc1
          obtain ⟨z, hz⟩ : ∃ z, cs k = z := ⟨_, rfl⟩
          rw [hz] at HXQ HRG HC1 hnm HCS
          obtain ⟨kd, nm, ye, yn, yu, am⟩ := z
          obtain ⟨pe, pA, pc⟩ := pa
          simp only at HRG HC1 hnm HCS
          have hk0 : (0 : Int) ≤ k := by omega
          have hk1 : (k : Int) < nc := by omega
          clear hxq hrg hcs hc1 hz
          go_wp2_with fail
          refine (rfind_any Al c k (fun i => (zs i).1) nm wr (HL.out.cls (by omega)) (by omega)).mono ?_
          rintro r w3 ⟨⟨fk, fv, rfl, hfv⟩, rfl⟩
          clear hfv
          cases fv with
          | true =>
            go_wp2_with fail
            go_ret2
            exact InfW.err _ HL.out.below
          | false =>
            have h1L : Hid (∀ u ∈ ([.int .i64 kd, .string nm, x0, x1, x2, x3, x4, x5, .slice pA yn pc, .int .i64 am] : List Value), u.oneCell' = true) := Lib.hid (List.all_eq_true.1 HC1.out)
            have hbase := HL.out.base
            go_wp2_with (first
              | (refine wpList_load_mid ?_ 46 (.tmp 49) ?_ b (o + k * 10) ?_ _ _ HRG.out Tryz.underlying46 ?_ HCI.out ?_; rfl; rfl; rfl; rfl)
              | (at_builtin; refine wpList_append_lies _ rfl _ _ 22 rfl (G + 1) 46 i0 _ 10 144 Tryz.underlying22 HI.out HZ0.out HZ1.out HZ2.out rfl (by omega) _ k (rowL (k * 10) (rowF 10 clC zs)) rfl (HL.out.row.alloc _) ⟨wr.heap.size, 0, none⟩ 1 1 [.int .i64 kd, .string nm, x0, x1, x2, x3, x4, x5, .slice pA yn pc, .int .i64 am] rfl rfl (World.news_of_block (cs := #[.int .i64 kd, .string nm, x0, x1, x2, x3, x4, x5, .slice pA yn pc, .int .i64 am]) (t := 46) (fr := (0, 0)) (heap_alloc_new wr _)) h1L.out (by omega) (by unfold maxLen; omega) (by omega) (by simp; omega) (wr.heap.size + 1) (by simp) ?_; intro g2 cap2 w7 hown hgrow hat hlt7))
            obtain ⟨hl7, hb7⟩ := HL.out.snoc HXQ.out hgrow (by rw [HCS.out]; exact hown)
            have HL7 := Lib.hid hl7
            have HE7 := Lib.hid (HE.out.below hb7 (Nat.lt_succ_self G))
            clear hown hgrow hat hlt7 hl7 hb7 HL HE HRG HCS HC1 HXQ h1L e0 e1 e2 hnm
            go_roundw
            case rel => exact ⟨k + 1, _, _, _, by omega, by go_num, rfl, HL7, HE7⟩
            case measure => simp [intOf]; omega
        · have hkn : k = nc := by omega
          subst hkn
          have hdd : decide ((k : Int) < k) = false := by rw [decide_eq_false_iff_not]; omega
          have HN40 := Lib.hid hnc
          clear hlt HCL HCOK hk hnc
          obtain ⟨mm, hmm⟩ : ∃ z, k = z := ⟨_, rfl⟩
          rw [hmm] at HL HE HN40 hdd e0 ⊢
          clear hmm
          go_wp2_with fail
          go_loopw [6, 10] (fun l i wr => ∃ (q n c : Nat) (Al : Option Addr) (zs : Nat → Cl × WA), (q ≤ ne ∧ n ≤ 100) ∧ i = .int .i64 q ∧ l = .slice Al n c ∧ Hid (LisR (G + 1) w wr Al n c zs) ∧ Hid (Has wr G #[.slice A mm ca, .slice E ne ce] 25)) (fun _ i _ => ne - (intOf i).toNat)
          case atStart => exact ⟨0, mm, c, Al, zs, ⟨Nat.zero_le _, by have := HN40.out; omega⟩, rfl, rfl, HL, HE⟩
          case round =>
            clear HL HE e0 e1 e2 hdd HN40
            obtain ⟨q, n, c, Al, zs, ⟨hq, hn⟩, rfl, rfl, HL, HE⟩ := hrel
            obtain ⟨e0, e1, e2⟩ := HE.out.rules
            have hne9 : ne ≤ 9223372036854775807 := HEN.out.1
            by_cases hlt : q < ne
            · obtain ⟨pa, b, o, hA, hbb, hxk, hrg⟩ := HEN.out.later (Below.refl w.heap.size w) (Nat.le_refl _) hlt
              obtain ⟨⟨_, hnr⟩, _, hmc, hcok⟩ := HEOK.out q hlt
              rw [hA] at HE e0
              have HAE := Lib.hid hA
              clear hA
              obtain ⟨y, hy⟩ : ∃ y, es q = y := ⟨_, rfl⟩
              rw [hy] at hxk hrg hnr hmc hcok
              obtain ⟨pf, pt, nr, rm, mc, ms⟩ := y
              obtain ⟨Ar, cr, Ac, cc⟩ := pa
              have HRG : Hid (wr.rangeAt b (o + q * 4) [.int .i64 pf, .int .i64 pt, .slice Ar nr cr, .slice Ac mc cc]) := Lib.hid fun j v hj => by rw [HL.out.below.cell (p := ⟨b, o + q * 4 + j, none⟩) hbb]; exact hrg j v hj
              have HRM : Hid (∀ V, Below w.heap.size w V → Strs V w.heap.size Ar nr rm) := Lib.hid fun V hb => Cells.keep hxk.2.1 fun p hp => hb.cell hp
              have HMS : Hid (ClsAt w w.heap.size Ac mc ms) := Lib.hid hxk.2.2
              have HMK : Hid (∀ i, i < mc → (ms i).ok) := Lib.hid hcok
              simp only at hnr hmc
              have hk0 : (0 : Int) ≤ q := by omega
              have hk1 : (q : Int) < ne := by omega
              have HC1 : Hid ((#[.int .i64 pf, .int .i64 pt, .slice Ar nr cr, .slice Ac mc cc] : Array Value).toList.all (·.oneCell') = true) := Lib.hid rfl
              have hbase := HL.out.base
              clear hxk hrg hy hcok
              go_upto_region 17 with (first
                | (refine wpList_load_mid ?_ 49 (.tmp 63) ?_ b (o + q * 4) ?_ _ _ HRG.out Tryz.underlying49 ?_ HNI.out ?_; rfl; rfl; rfl; rfl)
                | (refine wpList_store_has ?_ 49 (.tmp 11) (.tmp 64) ?_ wr.heap.size ?_ #[.int .i64 pf, .int .i64 pt, .slice Ar nr cr, .slice Ac mc cc] ?_ _ _ (Has.new wr _ _) HNI.out rfl HC1.out ?_; rfl; rfl; rfl; rfl; intro w5 hh5 hl5))
              have hb5 : Below wr.heap.size wr w5 := ((Below.refl _ _).alloc (Nat.le_refl _) _).trans (hl5.below (fun k hk => by omega) (by simp))
              have HH := Lib.hid hh5
              have hgl := HE.out.lt
              have HLW := Lib.hid HL.out.lt
              replace HL := Lib.hid (HL.out.next hb5)
              replace HE : Hid (Has w5 G #[.slice A mm ca, .slice E ne ce] 25) := Lib.hid (by rw [HAE.out]; exact HE.out.below hb5 hgl)
              obtain ⟨H, hH⟩ : ∃ H, wr.heap.size = H := ⟨_, rfl⟩
              rw [hH] at HH HLW hbase hgl ⊢
              clear hb5 hh5 hl5 HRG HC1 hH e0 e1 e2
              obtain ⟨e0, e1, e2⟩ := HH.out.rules
              go_wp2_with fail
              refine (rcontains_any pf pt h _).mono ?_
              rintro r w6 ⟨rfl, hb6⟩
              obtain ⟨bc, hbc⟩ : ∃ z, inB' pf pt h = z := ⟨_, rfl⟩
              rw [hbc]
              replace HL := Lib.hid (HL.out.next hb6)
              replace HE := Lib.hid (HE.out.below hb6 HE.out.lt)
              replace HH := Lib.hid (HH.out.below hb6 e2)
              clear hb6 hbc e0 e1 e2
              obtain ⟨e0, e1, e2⟩ := HH.out.rules
              cases bc with
              | false =>
                go_wp2_with fail
                go_roundw
                case rel => exact ⟨q + 1, n, c, Al, zs, ⟨by omega, hn⟩, by go_num, rfl, HL, HE⟩
                case measure => simp [intOf]; omega
              | true =>
                go_upto_region 19 with (fail)
                go_loopw [12] (fun i wr => ∃ k : Nat, k ≤ nr ∧ i = .int .i64 k ∧ Hid (LisR (G + 1) w wr Al n c zs) ∧ Hid (Has wr G #[.slice A mm ca, .slice E ne ce] 25) ∧ Hid (Has wr H #[.int .i64 pf, .int .i64 pt, .slice Ar nr cr, .slice Ac mc cc] 49)) (fun i _ => nr - (intOf i).toNat)
                case atStart => exact ⟨0, Nat.zero_le _, rfl, HL, HE, HH⟩
                case round =>
                  clear HL HE HH e0 e1 e2
                  obtain ⟨k, hk, rfl, HL, HE, HH⟩ := hrel
                  obtain ⟨e0, e1, e2⟩ := HH.out.rules
                  by_cases hkr : k < nr
                  · obtain ⟨bs, os, hAr, hbs, hcs⟩ := (HRM.out _ HL.out.below).get hkr
                    subst hAr
                    have hcn := hcs k hkr
                    have hj0 : (0 : Int) ≤ k := by omega
                    have hj1 : (k : Int) < nr := by omega
                    clear hcs
                    go_wp2_with fail
                    refine (rfind_any Al c n (fun i => (zs i).1) (rm k) wr (HL.out.cls (by omega)) (by omega)).mono ?_
                    rintro r w3 ⟨⟨fk, fv, rfl, hfv⟩, rfl⟩
                    clear hfv
                    cases fv with
                    | true =>
                      go_wp2_with fail
                      go_roundw
                      case rel => exact ⟨k + 1, by omega, by go_num, HL, HE, HH⟩
                      case measure => simp [intOf]; omega
                    | false =>
                      go_wp2_with fail
                      go_ret2
                      exact InfW.err _ HL.out.below
                  · have hkr2 : k = nr := by omega
                    clear hkr
                    obtain rfl : nr = k := hkr2.symm
                    have hdd : decide ((nr : Int) < nr) = false := by rw [decide_eq_false_iff_not]; omega
                    go_upto_region 26 with (fail)
                    go_loopw [15, 16] (fun lf i wr => ∃ (j m c2 : Nat) (A2 : Option Addr) (zs2 : Nat → Cl × WA), (j ≤ n ∧ m ≤ j) ∧ i = .int .i64 j ∧ lf = .slice A2 m c2 ∧ Hid (LisR (H + 1) w wr A2 m c2 zs2) ∧ Hid (LisR (G + 1) w wr Al n c zs) ∧ Hid (Has wr G #[.slice A mm ca, .slice E ne ce] 25) ∧ Hid (Has wr H #[.int .i64 pf, .int .i64 pt, .slice Ar nr cr, .slice Ac mc cc] 49)) (fun _ i _ => n - (intOf i).toNat)
                    case atStart => exact ⟨0, 0, 0, none, noZ, ⟨Nat.zero_le _, Nat.le_refl _⟩, rfl, rfl, Lib.hid (.nil HL.out.below ⟨by omega, e2⟩), HL, HE, HH⟩
                    case round =>
                      clear HL HE HH e0 e1 e2 hdd
                      obtain ⟨j, m, c2, A2, zs2, ⟨hj, hm⟩, rfl, rfl, HF, HL, HE, HH⟩ := hrel
                      obtain ⟨e0, e1, e2⟩ := HH.out.rules
                      by_cases hjn : j < n
                      · obtain ⟨bl, hAl, hB1, hB2, hrl⟩ := HL.out.get hjn
                        have hnm : wr.cell? ⟨bl, j * 10 + 1, none⟩ = some (.string (zs j).1.name) := hrl 1 _ rfl
                        have HZQ := Lib.hid (HL.out.elem j hjn)
                        obtain ⟨z, hz⟩ : ∃ z, zs j = z := ⟨_, rfl⟩
                        rw [hz] at hrl hnm HZQ
                        obtain ⟨z, pa⟩ := z
                        obtain ⟨x0, x1, x2, x3, x4, x5, hcs, _, hc1⟩ := Cl.cells_ex z pa
                        simp only at hrl hnm
                        rw [hcs] at hrl
                        have HRG := Lib.hid hrl
                        have HCS := Lib.hid hcs
                        have HC1 := Lib.hid hc1
                        obtain ⟨kd, nm, ye, yn, yu, am⟩ := z
                        obtain ⟨pe, pA, pc⟩ := pa
                        simp only at HRG HC1 hnm HCS
                        have HAl := Lib.hid hAl
                        have HFA : Hid (∀ q, (Value.slice Al n c).ownBlock = some q → q < H + 1) := Lib.hid fun q hq => Nat.lt_succ_of_lt (HLW.out q hq)
                        have hj0 : (0 : Int) ≤ j := by omega
                        have hj1 : (j : Int) < n := by omega
                        subst hAl
                        have HWT : Hid (∀ V, Below wr.heap.size wr V → Calls Tryz.prog 96 #[.slice Ar nr cr, .string nm] V (fun r w' => (∃ v : Bool, r = .returned (.bool v)) ∧ V = w')) := Lib.hid fun V hb => by
                          have hbw : Below w.heap.size w V := HL.out.below.trans (hb.mono HL.out.below.size)
                          have hst : Strs V V.heap.size Ar nr rm := Cells.mono (HRM.out V hbw) hbw.size
                          exact within9_any Ar cr nr rm nm V hst (Nat.le_trans hnr (by decide))
                        clear hrl hcs hc1 hz
                        go_upto_region 28 with (fail)
                        have HSS : Hid (∀ V, Below wr.heap.size wr V → V.cell? ⟨H, 2, none⟩ = some (.slice Ar nr cr) ∧ V.cell? ⟨bl, j * 10 + 1, none⟩ = some (.string nm)) := Lib.hid fun V hb => ⟨by rw [(HH.out.below hb e2).cell]; rfl, by rw [hb.cell (p := ⟨bl, j * 10 + 1, none⟩) hB2]; exact hnm⟩
                        have HBB : Hid (Below wr.heap.size wr wr.drew) := Lib.hid (Below.drew (Below.refl _ _))
                        go_region_held3 (fun V => V.cell? ⟨H, 2, none⟩ = some (.slice Ar nr cr) ∧ V.cell? ⟨bl, j * 10 + 1, none⟩ = some (.string nm)) (exact HSS.out _ HBB.out) (first
                          | (go_at_call 96; refine (HWT.out _ HBB.out).mono ?_; rintro r w7 ⟨⟨v7, rfl⟩, rfl⟩))
                        have hl7 := HL.out.next (Below.drew (Below.refl _ _))
                        have hf7 := HF.out.next (Below.drew (Below.refl _ _))
                        have he7 := HE.out.drew
                        have hh7 := HH.out.drew
                        have hr7 : wr.drew.rangeAt bl (j * 10) [.int .i64 kd, .string nm, x0, x1, x2, x3, x4, x5, .slice pA yn pc, .int .i64 am] := HRG.out
                        have hz7 : clQ (fun b => b < w.heap.size) wr.drew (Cl.mk kd nm ye yn yu am, (⟨pe, pA, pc⟩ : WA)) := clQ_moves _ _ _ _ _ HZQ.out (fun _ _ _ => rfl) (fun _ h => h)
                        obtain ⟨wd, hwd⟩ : ∃ z, wr.drew = z := ⟨_, rfl⟩
                        rw [hwd] at hl7 hf7 he7 hh7 hr7 hz7 ⊢
                        clear hwd HSS HBB HWT HL HF HE HH HRG HZQ e0 e1 e2 hnm hB2
                        have HL := Lib.hid hl7
                        have HF := Lib.hid hf7
                        have HE := Lib.hid he7
                        have HH := Lib.hid hh7
                        have HRG := Lib.hid hr7
                        have HZQ := Lib.hid hz7
                        clear hl7 hf7 he7 hh7 hr7 hz7
                        cases v7 with
                        | true =>
                          go_wp2_with fail
                          go_roundw
                          case rel => exact ⟨j + 1, m, c2, A2, zs2, ⟨by omega, by omega⟩, by go_num, rfl, HF, HL, HE, HH⟩
                          case measure => simp [intOf]; omega
                        | false =>
                          have h1L : Hid (∀ u ∈ ([.int .i64 kd, .string nm, x0, x1, x2, x3, x4, x5, .slice pA yn pc, .int .i64 am] : List Value), u.oneCell' = true) := Lib.hid (List.all_eq_true.1 HC1.out)
                          have hbase2 := HF.out.base
                          go_wp2_with (first
                            | (refine wpList_load_mid ?_ 46 (.tmp 107) ?_ bl (j * 10) ?_ _ _ HRG.out Tryz.underlying46 ?_ HCI.out ?_; rfl; rfl; rfl; rfl)
                            | (at_builtin; refine wpList_append_lies _ rfl _ _ 22 rfl (H + 1) 46 i0 _ 10 144 Tryz.underlying22 HI.out HZ0.out HZ1.out HZ2.out rfl (by omega) _ m (rowL (m * 10) (rowF 10 clC zs2)) rfl (HF.out.row.alloc _) ⟨wd.heap.size, 0, none⟩ 1 1 [.int .i64 kd, .string nm, x0, x1, x2, x3, x4, x5, .slice pA yn pc, .int .i64 am] rfl rfl (World.news_of_block (cs := #[.int .i64 kd, .string nm, x0, x1, x2, x3, x4, x5, .slice pA yn pc, .int .i64 am]) (t := 46) (fr := (0, 0)) (heap_alloc_new wd _)) h1L.out (by omega) (by unfold maxLen; omega) (by omega) (by simp; omega) (wd.heap.size + 1) (by simp) ?_; intro g2 cap2 w7 hown hgrow hat hlt7))
                          obtain ⟨hf7, hb7⟩ := HF.out.snoc HZQ.out hgrow (by rw [HCS.out]; exact hown)
                          have HF7 := Lib.hid hf7
                          have HL7 := Lib.hid (HL.out.later hb7 (by omega) HFA.out)
                          have HE7 := Lib.hid (HE.out.below hb7 (by omega))
                          have HH7 := Lib.hid (HH.out.below hb7 (Nat.lt_succ_self H))
                          clear hown hgrow hat hlt7 hf7 hb7 HL HF HE HH HRG HCS HC1 HZQ h1L
                          go_roundw
                          case rel => exact ⟨j + 1, m + 1, _, _, _, ⟨by omega, by omega⟩, by go_num, rfl, HF7, HL7, HE7, HH7⟩
                          case measure => simp [intOf]; omega
                      · have hjn2 : j = n := by omega
                        clear hjn HL
                        obtain rfl : n = j := hjn2.symm
                        have hdd : decide ((n : Int) < n) = false := by rw [decide_eq_false_iff_not]; omega
                        go_upto_region 31 with (fail)
                        go_loopw [15, 17] (fun lf i wr => ∃ (k m c2 : Nat) (A2 : Option Addr) (zs2 : Nat → Cl × WA), (k ≤ mc ∧ m ≤ n + k) ∧ i = .int .i64 k ∧ lf = .slice A2 m c2 ∧ Hid (LisR (H + 1) w wr A2 m c2 zs2) ∧ Hid (Has wr G #[.slice A mm ca, .slice E ne ce] 25) ∧ Hid (Has wr H #[.int .i64 pf, .int .i64 pt, .slice Ar nr cr, .slice Ac mc cc] 49)) (fun _ i _ => mc - (intOf i).toNat)
                        case atStart => exact ⟨0, m, c2, A2, zs2, ⟨Nat.zero_le _, by omega⟩, rfl, rfl, HF, HE, HH⟩
                        case round =>
                          clear HF HE HH e0 e1 e2 hdd
                          obtain ⟨k, m, c2, A2, zs2, ⟨hk, hm⟩, rfl, rfl, HF, HE, HH⟩ := hrel
                          obtain ⟨e0, e1, e2⟩ := HH.out.rules
                          by_cases hkm : k < mc
                          · obtain ⟨pa, b, o, hA, hbb, hxq, hrg⟩ := cls_elem HMS.out HF.out.below hkm (HMK.out k hkm)
                            subst hA
                            have hnm : wr.cell? ⟨b, o + k * 10 + 1, none⟩ = some (.string (ms k).name) := hrg 1 _ rfl
                            have HXQ := Lib.hid hxq
                            obtain ⟨x0, x1, x2, x3, x4, x5, hcs, _, hc1⟩ := Cl.cells_ex (ms k) pa
                            rw [hcs] at hrg
                            have HRG := Lib.hid hrg
                            have HCS := Lib.hid hcs
                            have HC1 := Lib.hid hc1
                            obtain ⟨z, hz⟩ : ∃ z, ms k = z := ⟨_, rfl⟩
                            rw [hz] at HXQ HRG HC1 hnm HCS
                            obtain ⟨kd, nm, ye, yn, yu, am⟩ := z
                            obtain ⟨pe, pA, pc⟩ := pa
                            simp only at HRG HC1 hnm HCS
                            have hj0 : (0 : Int) ≤ k := by omega
                            have hj1 : (k : Int) < mc := by omega
                            clear hxq hrg hcs hc1 hz
                            go_wp2_with fail
                            refine (rfind_any A2 c2 m (fun i => (zs2 i).1) nm wr (HF.out.cls (by omega)) (by omega)).mono ?_
                            rintro r w3 ⟨⟨fk, fv, rfl, hfv⟩, rfl⟩
                            clear hfv
                            cases fv with
                            | true =>
                              go_wp2_with fail
                              go_ret2
                              exact InfW.err _ HF.out.below
                            | false =>
                              have h1L : Hid (∀ u ∈ ([.int .i64 kd, .string nm, x0, x1, x2, x3, x4, x5, .slice pA yn pc, .int .i64 am] : List Value), u.oneCell' = true) := Lib.hid (List.all_eq_true.1 HC1.out)
                              have hbase2 := HF.out.base
                              go_wp2_with (first
                                | (refine wpList_load_mid ?_ 46 (.tmp 134) ?_ b (o + k * 10) ?_ _ _ HRG.out Tryz.underlying46 ?_ HCI.out ?_; rfl; rfl; rfl; rfl)
                                | (at_builtin; refine wpList_append_lies _ rfl _ _ 22 rfl (H + 1) 46 i0 _ 10 144 Tryz.underlying22 HI.out HZ0.out HZ1.out HZ2.out rfl (by omega) _ m (rowL (m * 10) (rowF 10 clC zs2)) rfl (HF.out.row.alloc _) ⟨wr.heap.size, 0, none⟩ 1 1 [.int .i64 kd, .string nm, x0, x1, x2, x3, x4, x5, .slice pA yn pc, .int .i64 am] rfl rfl (World.news_of_block (cs := #[.int .i64 kd, .string nm, x0, x1, x2, x3, x4, x5, .slice pA yn pc, .int .i64 am]) (t := 46) (fr := (0, 0)) (heap_alloc_new wr _)) h1L.out (by omega) (by unfold maxLen; omega) (by omega) (by simp; omega) (wr.heap.size + 1) (by simp) ?_; intro g2 cap2 w7 hown hgrow hat hlt7))
                              obtain ⟨hf7, hb7⟩ := HF.out.snoc HXQ.out hgrow (by rw [HCS.out]; exact hown)
                              have HF7 := Lib.hid hf7
                              have HE7 := Lib.hid (HE.out.below hb7 (by omega))
                              have HH7 := Lib.hid (HH.out.below hb7 (Nat.lt_succ_self H))
                              clear hown hgrow hat hlt7 hf7 hb7 HF HE HH HRG HCS HC1 HXQ h1L hnm
                              go_roundw
                              case rel => exact ⟨k + 1, m + 1, _, _, _, ⟨by omega, by omega⟩, by go_num, rfl, HF7, HE7, HH7⟩
                              case measure => simp [intOf]; omega
                          · have hkm2 : k = mc := by omega
                            obtain rfl : mc = k := hkm2.symm
                            have hdd : decide ((mc : Int) < mc) = false := by rw [decide_eq_false_iff_not]; omega
                            have HFD := Lib.hid (HF.out.down (B' := G + 1) ⟨by omega, by omega⟩)
                            have HFB := Lib.hid HF.out.below
                            clear hkm HF
                            by_cases h100 : m ≤ 100
                            · have hm1 : (m : Int) ≤ 100 := by omega
                              go_wp2_with fail
                              go_roundw
                              case rel => exact ⟨q + 1, m, c2, A2, zs2, ⟨by omega, h100⟩, by go_num, rfl, HFD, HE⟩
                              case measure => simp [intOf]; omega
                            · have hm1 : (100 : Int) < m := by omega
                              go_wp2_with fail
                              go_ret2
                              exact InfW.err _ HFB.out
            · have hqn : q = ne := by omega
              subst hqn
              have hdd : decide ((q : Int) < q) = false := by rw [decide_eq_false_iff_not]; omega
              go_wp2_with fail
              go_ret2
              exact ⟨Al, n, c, 0, zs, rfl, by omega, HL.out.down ⟨Nat.le_refl _, by omega⟩⟩
    · obtain hh' : hourB h = false := by simpa using hh
      rw [hh']
      go_wp2_with fail
      go_ret2
      exact InfW.err _ HB.out
end Go.Proofs.YtlbkhhbbkedhkaaGreatDoor
namespace Go.Proofs.YtlbkhhbbkedhkaaGreatDoor
open Go.RowKit
set_option linter.unusedVariables false

def ThreeI (w : World) (r : Ending) (w' : World) : Prop := (∃ u v e : Int, r = .returned (.tuple #[.int .i64 u, .int .i64 v, .int .i64 e])) ∧ Below w.heap.size w w'

theorem ptsOf_few (x : Wr) : (ptsOf x).length ≤ 25 := by
  by_cases h : x.ok
  · rw [ptsOf_yes h]
    have h1 := ptsR_length x.es x.ne
    have h2 := h.1.1
    omega
  · rw [ptsOf_no h]
    exact Nat.zero_le _

set_option maxRecDepth 100000 in
set_option maxHeartbeats 4000000 in
theorem wordingerror_any (As : Option Addr) (c n : Nat) (ats : Nat → Att) (x : Wr) (A E : Option Addr) (ca ce : Nat) (w : World) (hs : SchIn (lo w.heap.size) w As n ats) (hx : WrAt w w.heap.size x A E) :
    Calls Tryz.prog 39 #[.agg #[.slice As n c], .agg #[.slice A x.nc ca, .slice E x.ne ce]] w (ThreeI w) := by
  have HWV : Hid (∀ W, Below w.heap.size w W → Calls Tryz.prog 23 #[.agg #[.slice A x.nc ca, .slice E x.ne ce]] W (IffPost x.ok W)) := Lib.hid fun W hb => rwording_any x A E ca ce W (hx.below hb hb.size)
  have HPT : Hid (∀ W, Below w.heap.size w W → Calls Tryz.prog 10 #[.agg #[.slice A x.nc ca, .slice E x.ne ce]] W (IntsPost (ptsOf x) W)) := Lib.hid fun W hb => rpoints_any x A E ca ce W (hx.below hb hb.size)
  have HIN : Hid (∀ h W, Below w.heap.size w W → Calls Tryz.prog 66 #[.agg #[.slice A x.nc ca, .slice E x.ne ce], .int .i64 h] W (InfW W)) := Lib.hid fun h W hb => rinforce_any x A E ca ce h W (hx.below hb hb.size)
  have HS : Hid (∀ W, Below w.heap.size w W → SchIn (lo W.heap.size) W As n ats) := Lib.hid fun W hb => hs.keep (fun i o hi => hb.cell (p := ⟨i, o, none⟩) hi) (fun i hi => Nat.lt_of_lt_of_le hi hb.size)
  have HCL : Hid (∀ (B : Option Addr) (m d : Nat) (cs : Nat → Cl) W, Below w.heap.size w W → m ≤ 1000 → (∀ k, k < m → (cs k).ok) → ClsAt W W.heap.size B m cs → Calls Tryz.prog 36 #[.agg #[.slice As n c], .slice B m d] W (TwoI W)) := Lib.hid fun B m d cs W hb h1 h2 h3 => rcls_any As B c n m d ats cs W h1 h2 (HS.out W hb) h3
  have hfew := ptsOf_few x
  obtain ⟨pts, hpts⟩ : ∃ l, ptsOf x = l := ⟨_, rfl⟩
  obtain ⟨nc, hnc⟩ : ∃ l, x.nc = l := ⟨_, rfl⟩
  obtain ⟨ne, hne⟩ : ∃ l, x.ne = l := ⟨_, rfl⟩
  obtain ⟨xo, hxo⟩ : ∃ P : Prop, x.ok = P := ⟨_, rfl⟩
  rw [hpts] at HPT hfew
  rw [hxo] at HWV
  rw [hnc, hne] at HWV HPT HIN ⊢
  clear hx hs hpts hnc hne hxo HS
  obtain ⟨G, hG⟩ : ∃ G, w.heap.size = G := ⟨_, rfl⟩
  have HGE := Lib.hid hG
  go_enter Tryz.func39, Tryz.ntmps39
  go_upto_region 1 with (fail)
  have HB : Hid (Below w.heap.size w ((w.alloc (.cells #[.slice As n c] 56)).alloc (.cells #[.slice A nc ca, .slice E ne ce] 25))) := Lib.hid (((Below.refl _ _).alloc (Nat.le_refl _) _).alloc (by simp) _)
  have HE := Lib.hid ((Has.new w #[.slice As n c] 56).alloc (.cells #[.slice A nc ca, .slice E ne ce] 25))
  have HW := Lib.hid (Has.new' (w.alloc (.cells #[.slice As n c] 56)) (G + 1) #[.slice A nc ca, .slice E ne ce] 25 (by simp; omega))
  obtain ⟨W, hW⟩ : ∃ W, (w.alloc (.cells #[.slice As n c] 56)).alloc (.cells #[.slice A nc ca, .slice E ne ce] 25) = W := ⟨_, rfl⟩
  rw [hW] at HB HE HW ⊢
  rw [hG] at HE
  try rw [hG]
  clear hW hG
  have hGw : w.heap.size = G := HGE.out
  obtain ⟨e0, e1, e2⟩ := HW.out.rules
  go_wp2_with fail
  refine (HWV.out _ HB.out).mono ?_
  rintro r w1 ⟨bv, rfl, hbv, hb⟩
  replace HE := Lib.hid (HE.out.below hb (by omega))
  replace HW := Lib.hid (HW.out.below hb e2)
  replace HB := Lib.hid (HB.out.trans (hb.mono HB.out.size))
  clear hb e0 e1 e2 HWV
  obtain ⟨e0, e1, e2⟩ := HW.out.rules
  cases bv with
  | false =>
    clear hbv
    go_wp2_with fail
    go_ret3
    exact ⟨⟨_, _, _, rfl⟩, HB.out⟩
  | true =>
    clear hbv
    go_wp2_with fail
    refine (HPT.out _ HB.out).mono ?_
    rintro r w2 ⟨Ap, cp, rfl, hp, hb⟩
    replace HE := Lib.hid (HE.out.below hb (by omega))
    replace HW := Lib.hid (HW.out.below hb e2)
    replace HB := Lib.hid (HB.out.trans (hb.mono HB.out.size))
    have HP : Hid (Ints w2 w2.heap.size Ap pts) := Lib.hid hp
    clear hb e0 e1 e2 HPT hp
    go_wp2_with fail
    go_loopw [8] (fun i wr => ∃ k : Nat, k ≤ pts.length ∧ i = .int .i64 k ∧ Hid (Below w.heap.size w wr) ∧ Hid (Has wr G #[.slice As n c] 56) ∧ Hid (Has wr (G + 1) #[.slice A nc ca, .slice E ne ce] 25) ∧ Hid (Ints wr wr.heap.size Ap pts)) (fun i _ => pts.length - (intOf i).toNat)
    case atStart => exact ⟨0, Nat.zero_le _, rfl, HB, HE, HW, HP⟩
    case round =>
      clear HB HE HW HP
      obtain ⟨k, hk, rfl, HB, HE, HW, HP⟩ := hrel
      obtain ⟨e0, e1, e2⟩ := HW.out.rules
      by_cases hlt : k < pts.length
      · obtain ⟨bp, op, hAp, hbp, hcp⟩ := Nums.get (f := nth pts) HP.out hlt
        subst hAp
        have hk0 : (0 : Int) ≤ k := by omega
        have hk1 : (k : Int) < pts.length := by omega
        have HSS : Hid (∀ V, Below wr.heap.size wr V → (V.cell? ⟨G + 1, 0, none⟩ = some (.slice A nc ca) ∧ V.cell? ⟨G + 1, 1, none⟩ = some (.slice E ne ce)) ∧ V.cell? ⟨bp, op + k, none⟩ = some (.int .i64 (nth pts k))) := Lib.hid fun V hb => ⟨⟨by rw [(HW.out.below hb e2).cell]; rfl, by rw [(HW.out.below hb e2).cell]; rfl⟩, by rw [hb.cell (p := ⟨bp, op + k, none⟩) hbp]; exact hcp⟩
        obtain ⟨pk, hpk⟩ : ∃ z, nth pts k = z := ⟨_, rfl⟩
        rw [hpk] at HSS
        have HBB : Hid (Below wr.heap.size wr wr.drew) := Lib.hid (Below.drew (Below.refl _ _))
        clear hpk hcp
        go_upto_region 7 with (fail)
        go_region_held3 (fun V => (V.cell? ⟨G + 1, 0, none⟩ = some (.slice A nc ca) ∧ V.cell? ⟨G + 1, 1, none⟩ = some (.slice E ne ce)) ∧ V.cell? ⟨bp, op + k, none⟩ = some (.int .i64 pk)) (exact HSS.out _ HBB.out) (first
          | (go_at_call 66; refine (HIN.out pk _ (HB.out.trans (HBB.out.mono HB.out.size))).mono ?_; rintro r w8 ⟨Al, nl, cl, el, zs, rfl, hnl, hli⟩; have HLI := Lib.hid hli; (have hs8 := HBB.out.size); replace HBB : Hid (Below wr.heap.size wr w8) := Lib.hid (HBB.out.trans (hli.below.mono hs8)); clear hli hs8))
        have hsw := HB.out.size
        have hcp2 : w8.cell? ⟨bp, op + k, none⟩ = some (.int .i64 pk) := (HSS.out _ HBB.out).2
        replace HE := Lib.hid (HE.out.below HBB.out (by omega))
        replace HW := Lib.hid (HW.out.below HBB.out e2)
        replace HB := Lib.hid (HB.out.trans (HBB.out.mono hsw))
        replace HP : Hid (Ints w8 w8.heap.size (some ⟨bp, op, none⟩) pts) := Lib.hid (Cells.mono (Cells.below HP.out HBB.out) HBB.out.size)
        clear HSS HBB e0 e1 hsw
        by_cases hel : el = 0
        · have q1 : (el != 0) = false := by rw [hel]; rfl
          have hcls := HLI.out.cls hnl
          have hoks := fun i hi => (HLI.out.elem i hi).2
          have HC7 := Lib.hid (HCL.out Al nl cl (fun i => (zs i).1) w8 HB.out hnl hoks hcls)
          clear hel hcls hoks HLI
          obtain ⟨e0, e1, e3⟩ := HE.out.rules
          go_wp2_with fail
          refine HC7.out.mono ?_
          rintro r w9 ⟨⟨u, v, rfl⟩, hb9⟩
          replace HE := Lib.hid (HE.out.below hb9 e3)
          replace HW := Lib.hid (HW.out.below hb9 HW.out.lt)
          replace HB := Lib.hid (HB.out.trans (hb9.mono HB.out.size))
          replace HP : Hid (Ints w9 w9.heap.size (some ⟨bp, op, none⟩) pts) := Lib.hid (Cells.mono (Cells.below HP.out hb9) hb9.size)
          have hbp8 : bp < w8.heap.size := cell_lt hcp2
          have hcp9 : w9.cell? ⟨bp, op + k, none⟩ = some (.int .i64 pk) := by rw [hb9.cell (p := ⟨bp, op + k, none⟩) hbp8]; exact hcp2
          clear hcp2 hb9 HC7 e0 e1 e3 hbp8
          by_cases hv : v = 0
          · have q2 : (v != 0) = false := by rw [hv]; rfl
            go_wp2_with fail
            go_roundw
            case rel => exact ⟨k + 1, by omega, by go_num, HB, HE, HW, HP⟩
            case measure => simp [intOf]; omega
          · have q2 : (v != 0) = true := by simpa using hv
            go_wp2_with fail
            go_ret3
            exact ⟨⟨_, _, _, rfl⟩, HB.out⟩
        · have q1 : (el != 0) = true := by simpa using hel
          go_wp2_with fail
          go_ret3
          exact ⟨⟨_, _, _, rfl⟩, HB.out⟩
      · have hkn : k = pts.length := by omega
        have hdd : decide ((k : Int) < pts.length) = false := by rw [decide_eq_false_iff_not]; omega
        go_wp2_with fail
        go_ret3
        exact ⟨⟨_, _, _, rfl⟩, HB.out⟩
end Go.Proofs.YtlbkhhbbkedhkaaGreatDoor
namespace Go.Proofs.YtlbkhhbbkedhkaaGreatDoor
open Go.RowKit
set_option linter.unusedVariables false

/-- a list of endorsements with one more at place k -/
def insE (es : Nat → En) (k : Nat) (y : En) (i : Nat) : En := if i < k then es i else if i = k then y else es (i - 1)
theorem insE_low {es : Nat → En} {k i : Nat} {y : En} (h : i < k) : insE es k y i = es i := if_pos h
theorem insE_at {es : Nat → En} {k : Nat} {y : En} : insE es k y k = y := by unfold insE; rw [if_neg (by omega), if_pos rfl]
theorem insE_high {es : Nat → En} {k i : Nat} {y : En} (h : k ≤ i) : insE es k y (i + 1) = es i := by unfold insE; rw [if_neg (by omega), if_neg (by omega)]; rfl
section
variable {es : Nat → En} {k : Nat} {y : En} {L : List Cl}
theorem fold_ins_low (A : En → Bool) : ∀ j, j ≤ k → foldE (insE es k y) (fun i => A (insE es k y i)) j L = foldE es (fun i => A (es i)) j L
  | 0, _ => rfl
  | j + 1, h => by
    rw [foldE, foldE, fold_ins_low A j (by omega)]
    simp only [insE_low (show j < k by omega)]
theorem fold_ins_high (A : En → Bool) (hA : A y = false) : ∀ j, k ≤ j → foldE (insE es k y) (fun i => A (insE es k y i)) (j + 1) L = foldE es (fun i => A (es i)) j L := by
  intro j
  induction j with
  | zero =>
    intro h
    obtain rfl : k = 0 := by omega
    simp [foldE, insE_at, hA]
  | succ j ih =>
    intro h
    by_cases e : k = j + 1
    · subst e
      rw [foldE, fold_ins_low A (j + 1) (Nat.le_refl _)]
      simp only [insE_at, hA]
      cases foldE es (fun i => A (es i)) (j + 1) L with
      | error x => rfl
      | ok M => rfl
    · rw [foldE, ih (by omega), foldE.eq_def es _ (j + 1)]
      simp only [insE_high (show k ≤ j by omega)]
end
def insX (x : Wr) (k : Nat) (y : En) : Wr := ⟨x.nc, x.cs, x.ne + 1, insE x.es k y⟩
theorem infL_ins {x : Wr} {k : Nat} {y : En} {h : Int} (hk : k ≤ x.ne) (hy : inB' y.pf y.pt h = false) : infL (insX x k y) (actOf (insX x k y) h) = infL x (actOf x h) := by
  by_cases hd : distN x.nc x.cs
  · rw [infL_fold (x := x) hd, infL_fold (x := insX x k y) hd]
    exact fold_ins_high (fun e => inB' e.pf e.pt h) hy x.ne hk
  · rw [infL_dup (x := x) hd, infL_dup (x := insX x k y) hd]
theorem insX_ok {x : Wr} {k : Nat} {y : En} (hx : x.ok) (hk : k ≤ x.ne) (hn : x.ne ≤ 11) (hy : y.ok) : (insX x k y).ok :=
  ⟨⟨show x.ne + 1 ≤ 12 by omega, hx.1.2⟩, fun i hi => by
    have hi : i < x.ne + 1 := hi
    show (insE x.es k y i).ok
    unfold insE
    split
    · exact hx.2 i (by omega)
    · split
      · exact hy
      · exact hx.2 (i - 1) (by omega)⟩

/-- between change points the same endorsements act -/
theorem act_same {x : Wr} {a b : Int} (hab : a ≤ b) (hp : ∀ p, p ∈ ptsR x.es x.ne → ¬ (a < p ∧ p ≤ b)) (i : Nat) (hi : i < x.ne) : actOf x a i = actOf x b i := by
  have h1 := hp _ (ptsR_mem x.es hi).1
  have h2 := hp _ (ptsR_mem x.es hi).2
  unfold actOf inB'
  congr 1
  apply propext
  constructor
  · rintro ⟨h3, h4, h5⟩
    exact ⟨h3, by omega, by omega⟩
  · rintro ⟨h3, h4, h5⟩
    exact ⟨h3, by omega, by omega⟩
theorem infL_same {x : Wr} {a b : Int} (hab : a ≤ b) (hp : ∀ p, p ∈ ptsR x.es x.ne → ¬ (a < p ∧ p ≤ b)) : infL x (actOf x a) = infL x (actOf x b) := by
  by_cases hd : distN x.nc x.cs
  · rw [infL_fold hd, infL_fold hd]
    exact foldE_congr fun i hi => act_same hab hp i hi
  · rw [infL_dup hd, infL_dup hd]
end Go.Proofs.YtlbkhhbbkedhkaaGreatDoor
namespace Go.Proofs.YtlbkhhbbkedhkaaGreatDoor
open Go.RowKit
set_option linter.unusedVariables false

def ClsIn (S : Nat → Prop) (w : World) (A : Option Addr) (n : Nat) (cs : Nat → Cl) : Prop :=
  n ≤ big ∧ ∃ P : Nat → WA, CellsS S w A (n * 10) (fun j => (cs (j / 10)).cell (P (j / 10)) (j % 10)) ∧ ∀ i, i < n → ClIn S w (cs i) (P i)
def EnIn (S : Nat → Prop) (w : World) (b : En) (a : NA) : Prop := (b.nr ≤ big ∧ b.nr ≤ a.cr) ∧ CellsS S w a.Ar b.nr (fun j => .string (b.rm j)) ∧ ClsIn S w a.Ac b.nc b.cs
abbrev enC (x : En × NA) (j : Nat) : Value := x.1.cell x.2 j
def enQ (S : Nat → Prop) (w : World) (x : En × NA) : Prop := EnIn S w x.1 x.2 ∧ x.1.ok
section
variable {S T : Nat → Prop} {w w' : World} {A E : Option Addr} {n m ne B : Nat}
theorem ClsIn.keep {cs : Nat → Cl} (h : ClsIn S w A n cs) (hk : ∀ b o, S b → w'.cell? ⟨b, o, none⟩ = w.cell? ⟨b, o, none⟩) (hS : ∀ b, S b → T b) : ClsIn T w' A n cs := by
  obtain ⟨h1, P, h2, h3⟩ := h
  exact ⟨h1, P, h2.keep hk hS, fun i hi => (h3 i hi).keep hk hS⟩
theorem ClsIn.to {cs : Nat → Cl} (h : ClsIn S w A n cs) (hS : ∀ b, S b → b < B) : ClsAt w B A n cs := by
  obtain ⟨h1, P, h2, h3⟩ := h
  exact ⟨h1, P, h2.to hS, fun i hi => (h3 i hi).to hS⟩
theorem EnIn.keep {b : En} {a : NA} (h : EnIn S w b a) (hk : ∀ b o, S b → w'.cell? ⟨b, o, none⟩ = w.cell? ⟨b, o, none⟩) (hS : ∀ b, S b → T b) : EnIn T w' b a := ⟨h.1, h.2.1.keep hk hS, h.2.2.keep hk hS⟩
theorem EnIn.to {b : En} {a : NA} (h : EnIn S w b a) (hS : ∀ b, S b → b < B) : EnAt w B b a := ⟨h.1, h.2.1.to hS, h.2.2.to hS⟩
theorem enQ_moves : Moves enQ := fun S T w w' x h hk hS => ⟨h.1.keep hk hS, h.2⟩
theorem ClsIn.made {zs : Nat → Cl × WA} (h1 : CellsS S w A (m * 10) (rowF 10 clC zs)) (h2 : ∀ i, i < m → clQ S w (zs i)) (hm : m ≤ 100) : ClsIn S w A m fun i => (zs i).1 :=
  ⟨by unfold big; omega, fun i => (zs i).2, h1, fun i hi => (h2 i hi).1⟩

/-- a wording: its clauses and endorsements lie in blocks of S -/
structure WrdI (S : Nat → Prop) (w : World) (A E : Option Addr) (m ne : Nat) (zs : Nat → Cl × WA) (ys : Nat → En × NA) : Prop where
  l1 : CellsS S w A (m * 10) (rowF 10 clC zs)
  q1 : ∀ i, i < m → clQ S w (zs i)
  l2 : CellsS S w E (ne * 4) (rowF 4 enC ys)
  q2 : ∀ i, i < ne → enQ S w (ys i)
theorem WrdI.keep {zs : Nat → Cl × WA} {ys : Nat → En × NA} (h : WrdI S w A E m ne zs ys) (hk : ∀ b o, S b → w'.cell? ⟨b, o, none⟩ = w.cell? ⟨b, o, none⟩) (hS : ∀ b, S b → T b) : WrdI T w' A E m ne zs ys :=
  ⟨h.l1.keep hk hS, fun i hi => clQ_moves _ _ _ _ _ (h.q1 i hi) hk hS, h.l2.keep hk hS, fun i hi => enQ_moves _ _ _ _ _ (h.q2 i hi) hk hS⟩
def wrX (m ne : Nat) (zs : Nat → Cl × WA) (ys : Nat → En × NA) : Wr := ⟨m, fun i => (zs i).1, ne, fun i => (ys i).1⟩
theorem WrdI.at {zs : Nat → Cl × WA} {ys : Nat → En × NA} (h : WrdI S w A E m ne zs ys) (hS : ∀ b, S b → b < B) (hm : m ≤ 100) (hn : ne ≤ 100) : WrAt w B (wrX m ne zs ys) A E :=
  ⟨(ClsIn.made h.l1 h.q1 hm).to hS, show ne ≤ big by unfold big; omega, fun i => (ys i).2, h.l2.to hS, fun i hi => (h.q2 i hi).1.to hS⟩
theorem WrdI.ok {zs : Nat → Cl × WA} {ys : Nat → En × NA} (h : WrdI S w A E m ne zs ys) (hm : m ≤ 40) (hn : ne ≤ 12) : (wrX m ne zs ys).ok :=
  ⟨⟨hn, hm, fun i hi => (h.q1 i hi).2⟩, fun i hi => (h.q2 i hi).2⟩
end

/-- what Deck.Wording returns -/
def WordP (b : Nat) (w : World) (r : Ending) (w' : World) : Prop := ∃ (x : Wr) (A E : Option Addr) (ca ce : Nat), r = .returned (.agg #[.slice A x.nc ca, .slice E x.ne ce]) ∧ (∀ V : World, (∀ q, w.heap.size ≤ q → q < w'.heap.size → V.heap[q]? = w'.heap[q]?) → w'.heap.size ≤ V.heap.size → WrAt V V.heap.size x A E) ∧ x.ok ∧ (0 < x.nc ∧ x.ne ≤ 2 ∧ x.ne ≤ ce ∧ (x.ne = 0 → E = none ∧ ce = 0)) ∧ Keeps b w w' ∧ IsDeck w' b
/-- what is known between the rounds of Deck.Wording -/
structure WoSt (b G H : Nat) (w : World) (As : Option Addr) (n c : Nat) (Al : Option Addr) (m cl : Nat) (Ae : Option Addr) (ne ce : Nat) (zs : Nat → Cl × WA) (ys : Nat → En × NA) (V : World) : Prop where
  e : Has V G #[.slice As n c] 56
  r : Has V (G + 1) #[.slice none 0 0, .slice none 0 0] 25
  o : Has V H #[.slice Al m cl, .slice Ae ne ce] 25
  x : WrdI (tS G H V) V Al Ae m ne zs ys
  k : Keeps b w V
  ord : b < G ∧ G + 1 < H
theorem WoSt.next {b G H : Nat} {w : World} {As : Option Addr} {n c : Nat} {Al : Option Addr} {m cl : Nat} {Ae : Option Addr} {ne ce : Nat} {zs : Nat → Cl × WA} {ys : Nat → En × NA} {V V' : World} (h : WoSt b G H w As n c Al m cl Ae ne ce zs ys V) (hk : Keeps b V V') : WoSt b G H w As n c Al m cl Ae ne ce zs ys V' := by
  have ho := h.ord
  exact ⟨h.e.keeps hk (by omega), h.r.keeps hk (by omega), h.o.keeps hk (by omega), h.x.keep (fun i o hi => World.cell?_of_block (w := V) (hk.block i hi.2.2 (by have := hi.1; omega))) (tS.up hk.size), h.k.trans hk, ho⟩
/-- names of some of the clauses, in their order -/
def subN (zs : Nat → Cl × WA) (t nr : Nat) (ι : Nat → Nat) : Prop := ∀ j, j < nr → ι j < t ∧ ∀ k, k < j → ι k < ι j
theorem subN.snoc {zs : Nat → Cl × WA} {t nr : Nat} {ι : Nat → Nat} (h : subN zs t nr ι) : subN zs (t + 1) (nr + 1) (updN ι nr t) := fun j hj => by
  by_cases e : j = nr
  · subst e
    rw [updN_at]
    exact ⟨by omega, fun k hk => by rw [updN_lt hk]; exact (h k hk).1⟩
  · rw [updN_lt (by omega)]
    exact ⟨by have := (h j (by omega)).1; omega, fun k hk => by rw [updN_lt (by omega)]; exact (h j (by omega)).2 k hk⟩
theorem subN.more {zs : Nat → Cl × WA} {t nr : Nat} {ι : Nat → Nat} (h : subN zs t nr ι) : subN zs (t + 1) nr ι := fun j hj => ⟨by have := (h j hj).1; omega, (h j hj).2⟩
theorem subN.few {zs : Nat → Cl × WA} {t nr : Nat} {ι : Nat → Nat} (h : subN zs t nr ι) : nr ≤ t := by
  have key : ∀ j, j < nr → j ≤ ι j := fun j => by
    induction j with
    | zero => exact fun _ => Nat.zero_le _
    | succ j ih => exact fun hj => by have := (h (j + 1) hj).2 j (Nat.lt_succ_self j); have := ih (by omega); omega
  rcases Nat.eq_zero_or_pos nr with h0 | h0
  · omega
  · have := key (nr - 1) (by omega)
    have := (h (nr - 1) (by omega)).1
    omega
/-- an endorsement that the deck has made is a valid one -/
theorem made_en {zs : Nat → Cl × WA} {p : ByteArray} {κ ι : Nat → Nat} {m nr nc : Nat} {cs : Nat → Cl} {f t : Int} (hu : upN p 7 m zs κ) (hp : prefP p) (hs : subN zs m nr ι) (hm : m ≤ 7) (hf : 0 ≤ f ∧ f < t ∧ t ≤ 876599) (hc : nc ≤ 40 ∧ ∀ i, i < nc → (cs i).ok) :
    (En.mk f t nr (fun j => (zs (ι j)).1.name) nc cs).ok := by
  have hn := hs.few
  refine ⟨⟨hf, show nr ≤ 40 by omega⟩, ⟨fun i hi => ?_, fun i hi k hk e => ?_⟩, hc⟩
  · show nameB (zs (ι i)).1.name = true
    have h1 := (hs i hi).1
    have h2 := hu (ι i) h1
    rw [h2.1.1]
    exact letL_name hp (by omega)
  · have h1 := (hs i hi).1
    have h2 := (hs i hi).2 k hk
    have h3 := hu (ι i) h1
    have h4 := hu (ι k) (by omega)
    have h5 := h3.2 (ι k) h2
    have e : (zs (ι i)).1.name = (zs (ι k)).1.name := e
    rw [h3.1.1, h4.1.1] at e
    have := letL_inj (by omega) (by omega) e
    omega
theorem step_append_none {P : Program} {w : World} {ops : Array Oper} {o : Oper} {a : Act} {K : Act → World → Prop} {Q : Exit → Act → World → Prop} {E : Prop} (hgd : o.guard = none) (s x : Operand) (t : TypeId)
    (ho : o.op = .call { callee := .builtin .append, args := #[s, x], argTypes := #[t, t] }) (base : Nat) (e : TypeId) (i : TypeInfo) (size : Nat) (ht : P.underlying t = some (.slice e)) (hi : P.info? e = some i)
    (v : Value) (n : Nat) (xs : List Value) (hs : a.eval s = v) (hown : w.ownsRow base e size v n xs) (hx : a.eval x = .slice none 0 0) (h : K (a.put o.dst v) w) :
    if Region.wanted o (yielded ops a.tmps) = true then Oper.wp P o a w K Q else E := by
  have hw : Region.wanted o (yielded ops a.tmps) = true := by simp [Region.wanted, hgd]
  rw [if_pos hw]
  have hrun := run_append_owned_none (P := P) (w := w) base t o.type e i size ht hi v n xs hown
  unfold Oper.wp
  simp [execOp, ho, resolve, invoke, builtin, hs, hx, hrun, Result.andThen]
  exact h

theorem Keeps.leaves {b E : Nat} {w w' : World} (h : Keeps b w w') : Leaves (fun q => q = b ∨ q = E) w w' := ⟨h.os, h.tape, h.output, h.size, fun k hk hn => h.block k hk fun c => hn (.inl c)⟩
/-- the endorsement that is made: its box E, the first i clauses looked at, nr names in its list -/
structure EnSt (b E : Nat) (w8 : World) (f t : Int) (A2 : Option Addr) (m2 c2 : Nat) (zs : Nat → Cl × WA) (i : Nat) (Ar : Option Addr) (nr cr : Nat) (ι : Nat → Nat) (V : World) : Prop where
  l : Leaves (fun q => q = b ∨ q = E) w8 V
  en : Has V E #[.int .i64 f, .int .i64 t, .slice Ar nr cr, .slice A2 m2 c2] 49
  row : V.ownsRow w8.heap.size 9 1 (.slice Ar nr cr) nr (rowL nr fun j => .string (zs (ι j)).1.name)
  sub : subN zs i nr ι
  ord : b < E ∧ E < w8.heap.size
section
variable {b E G H : Nat} {w8 V V' W w7 : World} {f t : Int} {A2 Ar : Option Addr} {m2 c2 i nr cr m : Nat} {zs zs2 : Nat → Cl × WA} {ι κ : Nat → Nat}
theorem EnSt.keeps (h : EnSt b E w8 f t A2 m2 c2 zs i Ar nr cr ι V) (hk : Keeps b V V') : EnSt b E w8 f t A2 m2 c2 zs i Ar nr cr ι V' :=
  ⟨h.l.trans hk.leaves, h.en.keeps hk (by have := h.ord; omega), own_keeps h.row hk (by have := h.ord; omega), h.sub, h.ord⟩
theorem EnSt.more (h : EnSt b E w8 f t A2 m2 c2 zs i Ar nr cr ι V) : EnSt b E w8 f t A2 m2 c2 zs (i + 1) Ar nr cr ι V := ⟨h.l, h.en, h.row, h.sub.more, h.ord⟩
theorem EnSt.append {gg cap : Nat} {ys : Array Value} {ty : TypeId} (h : EnSt b E w8 f t A2 m2 c2 zs i Ar nr cr ι V) (hW : Below V.heap.size V W) (hgrow : (W.alloc (.cells ys ty)).grownBy w7 (Value.slice Ar nr cr).ownBlock) (hown : w7.ownsRow w8.heap.size 9 1 (.slice (some ⟨gg, 0, none⟩) (nr + 1) cap) (nr + 1) ((rowL nr fun j => .string (zs (ι j)).1.name) ++ [.string (zs i).1.name])) :
    EnSt b E w8 f t A2 m2 c2 zs (i + 1) (some ⟨gg, 0, none⟩) (nr + 1) cap (updN ι nr i) (w7.setCell ⟨E, 2, none⟩ (.slice (some ⟨gg, 0, none⟩) (nr + 1) cap)) ∧ Below E V (w7.setCell ⟨E, 2, none⟩ (.slice (some ⟨gg, 0, none⟩) (nr + 1) cap)) := by
  have ho := h.ord
  have hs := h.l.size
  have hsW := hW.size
  have hb7 : Below w8.heap.size V w7 := Below.grown (Below.alloc (hW.mono (by omega)) (by omega) _) hgrow (by simp; omega) (fun q hq => (own_lt h.row hq).2)
  refine ⟨⟨?_, ?_, ?_, h.sub.snoc, h.ord⟩, Below.setCell (hb7.mono (by omega)) (Nat.le_refl E) _⟩
  · exact Leaves.put (h.l.trans' (T := fun q => w8.heap.size ≤ q) ⟨hb7.os, hb7.tape, hb7.output, hb7.size, fun q _ hn => hb7.block q (Nat.lt_of_not_le hn)⟩ (fun q hq hn => by omega)) (.inl (.inr rfl)) _
  · exact Has.put (cs := #[.int .i64 f, .int .i64 t, .slice Ar nr cr, .slice A2 m2 c2]) (h.en.below hb7 ho.2) 2 _
  · have hr : (rowL nr fun j => Value.string (zs (ι j)).1.name) ++ [.string (zs i).1.name] = rowL (nr + 1) fun j => .string (zs (updN ι nr i j)).1.name := by
      unfold rowL
      rw [List.range_succ, List.map_append]
      congr 1
      · exact List.map_congr_left fun j hj => by rw [updN_lt (List.mem_range.1 hj)]
      · simp [updN_at]
    rw [hr] at hown
    exact own_keeps (b := E) hown ((Keeps.refl E w7).put 2 _) ho.2
theorem EnSt.strs (h : EnSt b E w8 f t A2 m2 c2 zs i Ar nr cr ι V) {S : Nat → Prop} (hS : ∀ q, w8.heap.size ≤ q → q < V.heap.size → S q) : (nr ≤ i ∧ nr ≤ cr) ∧ CellsS S V Ar nr fun j => .string (zs (ι j)).1.name := by
  refine ⟨⟨h.sub.few, ?_⟩, fun hn => ?_⟩
  · rcases h.row.2 with ⟨e0, e1⟩ | ⟨g, cap', cur, e0, hg, hh, hr⟩
    · omega
    · injection e0 with _ _ e0
      have := hr.1
      omega
  · rcases h.row.2 with ⟨e0, e1⟩ | ⟨g, cap', cur, e0, hg, hh, hr⟩
    · omega
    · have hrow := h.row
      injection e0 with e0 _ _
      subst e0
      have hlt := own_lt hrow rfl
      exact ⟨g, 0, rfl, hS g hlt.2 hlt.1, fun j hj => by
        have hc := hrow.cellAt j (by omega)
        rw [rowL_get _ _ _ hj] at hc
        rw [Nat.zero_add, hc]⟩
/-- the endorsement is done -/
theorem EnSt.done {B6 : Nat} {p : ByteArray} (h : EnSt b E w8 f t A2 m2 c2 zs m Ar nr cr ι V) (hl : CellsS (fun q => B6 ≤ q ∧ q ≠ E ∧ q < w8.heap.size) w8 A2 (m2 * 10) (rowF 10 clC zs2)) (hq : ∀ j, j < m2 → clQ (fun q => B6 ≤ q ∧ q ≠ E ∧ q < w8.heap.size) w8 (zs2 j)) (hm2 : m2 ≤ 3) (hm : m ≤ 7) (hu : upN p 7 m zs κ) (hp : prefP p) (hf : 0 ≤ f ∧ f < t ∧ t ≤ 876599) (hB : b < B6 ∧ G + 1 < B6 ∧ H < B6) (hBw : B6 ≤ w8.heap.size) :
    enQ (fun q => G + 1 < q ∧ q ≠ H ∧ q ≠ E ∧ q < V.heap.size) V (⟨f, t, nr, fun j => (zs (ι j)).1.name, m2, fun j => (zs2 j).1⟩, ⟨Ar, cr, A2, c2⟩) := by
  have ho := h.ord
  have hs := h.l.size
  obtain ⟨⟨h1, h2⟩, h3⟩ := h.strs (S := fun q => G + 1 < q ∧ q ≠ H ∧ q ≠ E ∧ q < V.heap.size) (fun q h4 h5 => ⟨by omega, by omega, by omega, h5⟩)
  have hk : ∀ q o, (B6 ≤ q ∧ q ≠ E ∧ q < w8.heap.size) → V.cell? ⟨q, o, none⟩ = w8.cell? ⟨q, o, none⟩ := fun q o hS => World.cell?_of_block (w := w8) (h.l.block q hS.2.2 (by omega))
  have hS : ∀ q, (B6 ≤ q ∧ q ≠ E ∧ q < w8.heap.size) → (G + 1 < q ∧ q ≠ H ∧ q ≠ E ∧ q < V.heap.size) := fun q hS => ⟨by omega, by omega, hS.2.1, by omega⟩
  exact ⟨⟨⟨by show nr ≤ big; unfold big; omega, h2⟩, h3, (ClsIn.made hl hq (by omega)).keep hk hS⟩, made_en hu hp h.sub hm hf ⟨by omega, fun j hj => (hq j hj).2⟩⟩
/-- the endorsement takes the first clause of the wording instead -/
theorem EnSt.one {p : ByteArray} {g cap : Nat} {x : Cl × WA} (h : EnSt b E w8 f t A2 m2 c2 zs m Ar nr cr ι V) (hx : clQ (tS G H V) V x) (hxE : ∀ q, tS G H V q → q ≠ E → True) (hV : Below V.heap.size V V') (hg : V.heap.size ≤ g ∧ g < V'.heap.size) (hc : ∀ j, j < 10 → V'.cell? ⟨g, j, none⟩ = some (clC x j)) (hm : m ≤ 7) (hu : upN p 7 m zs κ) (hp : prefP p) (hf : 0 ≤ f ∧ f < t ∧ t ≤ 876599) (hG : G + 1 < V.heap.size ∧ H < V.heap.size ∧ G + 1 < w8.heap.size ∧ H < w8.heap.size) (hxe : ClIn (fun q => tS G H V q ∧ q ≠ E) V x.1 x.2) {U : World} (hU : U = V'.setCell ⟨E, 3, none⟩ (.slice (some ⟨g, 0, none⟩) 1 cap)) :
    Has U E (En.cells ⟨f, t, nr, fun j => (zs (ι j)).1.name, 1, fun _ => x.1⟩ ⟨Ar, cr, some ⟨g, 0, none⟩, cap⟩) 49 ∧ enQ (fun q => G + 1 < q ∧ q ≠ H ∧ q ≠ E ∧ q < U.heap.size) U (⟨f, t, nr, fun j => (zs (ι j)).1.name, 1, fun _ => x.1⟩, ⟨Ar, cr, some ⟨g, 0, none⟩, cap⟩) := by
  have ho := h.ord
  have hs := h.l.size
  have hs' := hV.size
  have hUs : U.heap.size = V'.heap.size := by rw [hU]; simp
  obtain ⟨⟨h1, h2⟩, h3⟩ := h.strs (S := fun q => w8.heap.size ≤ q ∧ q < V.heap.size) (fun q h4 h5 => ⟨h4, h5⟩)
  have hk : ∀ q o, q ≠ E → q < V.heap.size → U.cell? ⟨q, o, none⟩ = V.cell? ⟨q, o, none⟩ := fun q o h4 h5 => by
    rw [hU, World.cell?_of_block (w := V') (Below.heap_setCell V' ⟨E, 3, none⟩ _ q h4)]
    exact hV.cell (p := ⟨q, o, none⟩) h5
  refine ⟨?_, ⟨⟨⟨by show nr ≤ big; unfold big; omega, h2⟩, h3.keep (fun q o hS => hk q o (by omega) hS.2) (fun q hS => ⟨by omega, by omega, by omega, by omega⟩), ⟨by show 1 ≤ big; unfold big; omega, fun _ => x.2, fun _ => ⟨g, 0, rfl, ⟨by omega, by omega, by omega, by omega⟩, fun j hj => ?_⟩, fun j hj => ?_⟩⟩, made_en hu hp h.sub hm hf ⟨by omega, fun _ _ => hx.2⟩⟩⟩
  · rw [hU]
    exact Has.put (cs := #[.int .i64 f, .int .i64 t, .slice Ar nr cr, .slice A2 m2 c2]) (h.en.below hV (by omega)) 3 _
  · have hj : j < 10 := hj
    rw [Nat.zero_add, hU, World.cell?_of_block (w := V') (Below.heap_setCell V' ⟨E, 3, none⟩ _ g (show g ≠ E by omega)), hc j hj]
    show some (clC x j) = some (x.1.cell x.2 (j % 10))
    rw [Nat.mod_eq_of_lt hj]
  · exact hxe.keep (fun q o hS => hk q o hS.2 hS.1.2.2) (fun q hS => ⟨hS.1.1, hS.1.2.1, hS.2, by have := hS.1.2.2; omega⟩)
end
section
variable {b G H Y B g2 cap2 m cl ne ce n c : Nat} {w wx wG V : World} {As Al Ae : Option Addr} {zs : Nat → Cl × WA} {ys : Nat → En × NA} {y : En × NA}
/-- one endorsement more -/
theorem WrdI.push {S' : Nat → Prop} (hx : WrdI (tS G H wx) wx Al Ae m ne zs ys) (hS' : ∀ q, S' q → G + 1 < q ∧ q ≠ H ∧ q < wx.heap.size) (hy : enQ S' wx y) (hY : wx.heap.size = Y) (hk : ∀ q, q < Y → V.heap[q]? = wx.heap[q]?) (ho : V.ownsRow B 49 4 (.slice (some ⟨g2, 0, none⟩) (ne + 1) cap2) (ne + 1) (rowL (ne * 4) (rowF 4 enC ys) ++ (y.1.cells y.2).toList)) (hB : Y < B) (hV : wx.heap.size < V.heap.size) (hGH : G + 1 < H ∧ H < Y) :
    WrdI (fun q => G + 1 < q ∧ q ≠ H ∧ q ≠ Y ∧ q < V.heap.size) V Al (some ⟨g2, 0, none⟩) m (ne + 1) zs (updN ys ne y) := by
  have hk1 : ∀ q o, tS G H wx q → V.cell? ⟨q, o, none⟩ = wx.cell? ⟨q, o, none⟩ := fun q o hS => World.cell?_of_block (w := wx) (hk q (by have := hS.2.2; omega))
  have hS1 : ∀ q, tS G H wx q → (G + 1 < q ∧ q ≠ H ∧ q ≠ Y ∧ q < V.heap.size) := fun q hS => ⟨hS.1, hS.2.1, by have := hS.2.2; omega, by have := hS.2.2; omega⟩
  refine ⟨hx.l1.keep hk1 hS1, fun i hi => clQ_moves _ _ _ _ _ (hx.q1 i hi) hk1 hS1, fun _ => ?_, fun i hi => ?_⟩
  · rw [rowF_snoc (s := 4) (vs := (y.1.cells y.2).toList) (cf := enC) (x := y) rfl (fun j hj => En.cells_get _ _ _ hj)] at ho
    have hlt := own_lt (k := g2) ho rfl
    exact ⟨g2, 0, rfl, ⟨by omega, by omega, by omega, hlt.1⟩, fun j hj => by
      have hc := ho.cellAt j hj
      rw [rowL_get _ _ _ hj] at hc
      rw [Nat.zero_add, hc]⟩
  · by_cases e : i = ne
    · subst e
      rw [updN_at]
      exact enQ_moves _ _ _ _ _ hy (fun q o hS => World.cell?_of_block (w := wx) (hk q (by have := hS' q hS; omega))) (fun q hS => by have := hS' q hS; exact ⟨this.1, this.2.1, by omega, by omega⟩)
    · rw [updN_lt (by omega)]
      exact enQ_moves _ _ _ _ _ (hx.q2 i (by omega)) hk1 hS1
/-- the new wording is stored -/
theorem WoSt.store {Ag : Option Addr} {ys' : Nat → En × NA} (h : WoSt b G H w As n c Al m cl Ae ne ce zs ys V) (hx : WrdI (fun q => G + 1 < q ∧ q ≠ H ∧ q ≠ Y ∧ q < V.heap.size) V Al Ag m (ne + 1) zs ys') (hb : b < w.heap.size) (hG : w.heap.size = G) : WoSt b G H w As n c Al m cl Ag (ne + 1) cap2 zs ys' ((V.setCell ⟨H, 0, none⟩ (.slice Al m cl)).setCell ⟨H, 1, none⟩ (.slice Ag (ne + 1) cap2)) := by
  have ho := h.ord
  exact ⟨(h.e.far (by simp only; omega) _).far (by simp only; omega) _, (h.r.far (by simp only; omega) _).far (by simp only; omega) _, Has.put (cs := #[.slice Al m cl, .slice Ae ne ce]) (Has.put (cs := #[.slice Al m cl, .slice Ae ne ce]) h.o 0 _) 1 _, hx.keep (fun q o hS => by
    rw [World.cell?_setCell_other _ _ _ _ (fun e => by injection e with e; exact hS.2.1 e.symm), World.cell?_setCell_other _ _ _ _ (fun e => by injection e with e; exact hS.2.1 e.symm)]) (fun q hS => ⟨hS.1, hS.2.1, by have := hS.2.2.2; simp; omega⟩), (h.k.far (by simp only; omega) _).far (by simp only; omega) _, h.ord⟩
end
theorem own_cap {w : World} {base s n m cap : Nat} {e : TypeId} {a : Addr} {xs : List Value} (h : w.ownsRow base e s (.slice (some a) m cap) n xs) : n ≤ cap := by
  rcases h.2 with ⟨e0, _⟩ | ⟨g, cap', cur, e0, hg, hh, hr⟩
  · cases e0
  · injection e0 with _ _ e0
    have := hr.1
    omega
theorem rowE_one {n : Nat} {ys : Nat → En × NA} : ∀ u ∈ rowL (n * 4) (rowF 4 enC ys), u.oneCell' = true := fun u hu => by
  obtain ⟨j, hj, rfl⟩ := List.mem_map.1 hu
  have h4 : j % 4 < 4 := Nat.mod_lt _ (by omega)
  show ((ys (j / 4)).1.cell (ys (j / 4)).2 (j % 4)).oneCell' = true
  match j % 4, h4 with
  | 0, _ | 1, _ | 2, _ | 3, _ => rfl
theorem rowE_src {w : World} {n bl ol : Nat} {ys : Nat → En × NA} (hc : ∀ j, j < n * 4 → w.cell? ⟨bl, ol + j, none⟩ = some (rowF 4 enC ys j)) (hbl : bl < w.heap.size) : ∀ V, Below w.heap.size w V → ∀ j u, (rowL (n * 4) (rowF 4 enC ys))[j]? = some u → V.cell? ((⟨bl, ol, none⟩ : Addr).add j) = some u := fun V hb j u hu => by
  have hj : j < n * 4 := by
    have := (List.getElem?_eq_some_iff.1 hu).1
    rwa [rowL_length] at this
  rw [rowL_get _ _ _ hj] at hu
  rw [Addr.add_mid, hb.cell (p := ⟨bl, ol + j, none⟩) hbl, hc j hj]
  exact hu
end Go.Proofs.YtlbkhhbbkedhkaaGreatDoor
