/- Rows that grow by append, of things that lie elsewhere. Deck.Expr: an expression of at most a depth. -/
import Derived.Test.YtlbkhhbbkedhkaaGreatDoorMa18
namespace Go.Proofs.YtlbkhhbbkedhkaaGreatDoor
open Go.RowKit
set_option linter.unusedVariables false

section
variable {α : Type}
def rowF (s : Nat) (cf : α → Nat → Value) (zs : Nat → α) (j : Nat) : Value := cf (zs (j / s)) (j % s)
def updN (zs : Nat → α) (m : Nat) (x : α) : Nat → α := fun i => if i = m then x else zs i
theorem updN_lt {zs : Nat → α} {m i : Nat} {x : α} (h : i < m) : updN zs m x i = zs i := by unfold updN; rw [if_neg (by omega)]
theorem updN_at {zs : Nat → α} {m : Nat} {x : α} : updN zs m x m = x := by unfold updN; rw [if_pos rfl]
theorem rowF_snoc {s m : Nat} {cf : α → Nat → Value} {zs : Nat → α} {x : α} {vs : List Value} (hl : vs.length = s) (hv : ∀ j, j < s → vs[j]? = some (cf x j)) :
    rowL (m * s) (rowF s cf zs) ++ vs = rowL ((m + 1) * s) (rowF s cf (updN zs m x)) := by
  apply List.ext_getElem?
  intro j
  have hms : (m + 1) * s = m * s + s := Nat.succ_mul m s
  by_cases h1 : j < m * s
  · have hs : 0 < s := by
      rcases Nat.eq_zero_or_pos s with h | h
      · rw [h, Nat.mul_zero] at h1; omega
      · exact h
    have hd : j / s < m := (Nat.div_lt_iff_lt_mul hs).2 h1
    rw [List.getElem?_append_left (by rw [rowL_length]; exact h1), rowL_get _ _ j h1, rowL_get _ _ j (by omega)]
    unfold rowF
    rw [updN_lt hd]
  · rw [List.getElem?_append_right (by rw [rowL_length]; omega), rowL_length]
    by_cases h2 : j < (m + 1) * s
    · have hs : 0 < s := by omega
      have hd : j / s = m := Nat.div_eq_of_lt_le (by omega) (by omega)
      have hm : j % s = j - m * s := by
        have := Nat.div_add_mod j s
        rw [hd, Nat.mul_comm] at this
        omega
      rw [hv _ (by omega), rowL_get _ _ j h2]
      unfold rowF
      rw [hd, hm, updN_at]
    · rw [List.getElem?_eq_none (by omega), List.getElem?_eq_none (by rw [rowL_length]; omega)]

/-- what moves with its cells -/
def Moves (inP : (Nat → Prop) → World → α → Prop) : Prop := ∀ (S T : Nat → Prop) (w w' : World) (x : α), inP S w x → (∀ b o, S b → w'.cell? ⟨b, o, none⟩ = w.cell? ⟨b, o, none⟩) → (∀ b, S b → T b) → inP T w' x
/-- the blocks above B that hold neither a thing nor a row -/
def aS (B H : Nat) (A : Option Addr) (w : World) : Nat → Prop := fun i => B < i ∧ i ≠ H ∧ i < w.heap.size ∧ ∀ a, A = some a → i ≠ a.block
theorem row_next {inP : (Nat → Prop) → World → α → Prop} (hP : Moves inP) {wr w6 w7 w8 : World} {b B H s m cv g : Nat} {Av : Option Addr} {t et : TypeId} {L : List Value} {ys : Array Value} {zs : Nat → α} {x : α}
    (hA : ∀ i, i < m → inP (aS B H Av wr) wr (zs i)) (hk : Keeps b wr w6) (hb : b ≤ B) (ho : wr.ownsRow (H + 1) et s (.slice Av m cv) m L)
    (hin : inP (fun i => wr.heap.size ≤ i ∧ i < w6.heap.size) w6 x) (hgrow : (w6.alloc (.cells ys t)).grownBy w7 (Value.slice Av m cv).ownBlock)
    (hat : (Value.slice Av m cv).ownBlock = some g ∨ g = w6.heap.size + 1) (hH : H < wr.heap.size) (hB : B < wr.heap.size) (h8 : ∀ i o, i ≠ H → w8.cell? ⟨i, o, none⟩ = w7.cell? ⟨i, o, none⟩) (hs8 : w8.heap.size = w7.heap.size) :
    ∀ i, i < m + 1 → inP (aS B H (some ⟨g, 0, none⟩) w8) w8 (updN zs m x i) := by
  have hks := hk.size
  have hgs := hgrow.size
  have hal : (w6.alloc (.cells ys t)).heap.size = w6.heap.size + 1 := by simp
  have hq : ∀ q, (Value.slice Av m cv).ownBlock = some q → q < wr.heap.size ∧ ∃ a, Av = some a ∧ a.block = q := fun q hq => by
    obtain ⟨cap, e, _⟩ := own_form ho hq
    injection e with e1
    exact ⟨(own_lt ho hq).1, _, e1, rfl⟩
  have hcell : ∀ i o, i < w6.heap.size → (Value.slice Av m cv).ownBlock ≠ some i → i ≠ H → w8.cell? ⟨i, o, none⟩ = w6.cell? ⟨i, o, none⟩ := fun i o h1 h2 h3 => by
    rw [h8 i o h3, World.cell?_of_block (w := w6.alloc (.cells ys t)) (a := ⟨i, o, none⟩) (hgrow.block i (by omega) (fun e => h2 e.symm))]
    exact World.cell?_alloc_old w6 _ _ (show i ≠ w6.heap.size by omega)
  intro i hi
  by_cases e : i = m
  · rw [e, updN_at]
    have hne : ∀ c, wr.heap.size ≤ c → (Value.slice Av m cv).ownBlock ≠ some c := fun c hc h => by have := (hq c h).1; omega
    exact hP _ _ _ _ _ hin (fun c o hc => hcell c o hc.2 (hne c hc.1) (by omega)) fun c hc => ⟨by omega, by omega, by omega, fun a ha h => by
      injection ha with ha
      subst ha
      simp only at h
      rcases hat with h1 | h1
      · exact hne c hc.1 (h ▸ h1)
      · omega⟩
  · rw [updN_lt (by omega)]
    refine hP _ _ _ _ _ (hA i (by omega)) (fun c o hc => ?_) fun c hc => ⟨hc.1, hc.2.1, by have := hc.2.2.1; omega, fun a ha h => ?_⟩
    · rw [hcell c o (by have := hc.2.2.1; omega) (fun h => by obtain ⟨_, a, ha, hb⟩ := hq c h; exact hc.2.2.2 a ha hb.symm) hc.2.1]
      exact World.cell?_of_block (w := wr) (hk.block c hc.2.2.1 (by have := hc.1; omega))
    · injection ha with ha
      subst ha
      simp only at h
      rcases hat with h1 | h1
      · obtain ⟨_, a, ha, hb⟩ := hq g h1
        exact hc.2.2.2 a ha (by rw [hb]; exact h)
      · have := hc.2.2.1; omega
theorem row_out {inP : (Nat → Prop) → World → α → Prop} (hP : Moves inP) {wr w9 : World} {B G H s m cv : Nat} {Av : Option Addr} {et : TypeId} {cf : α → Nat → Value} {zs : Nat → α}
    (hA : ∀ i, i < m → inP (aS B H Av wr) wr (zs i)) (ho : wr.ownsRow (H + 1) et s (.slice Av m cv) m (rowL (m * s) (rowF s cf zs))) (hl : Leaves (fun k => k = G + 1) wr w9) (hG : G + 1 ≤ B) (hB : B ≤ H) :
    m ≤ cv ∧ CellsS (fun i => G ≤ i ∧ i < w9.heap.size) w9 Av (m * s) (rowF s cf zs) ∧ ∀ i, i < m → inP (fun i => G ≤ i ∧ i < w9.heap.size) w9 (zs i) := by
  have hs9 := hl.size
  have hx : ∀ i, i < m → inP (fun i => G ≤ i ∧ i < w9.heap.size) w9 (zs i) := fun i hi => hP _ _ _ _ _ (hA i hi) (fun c o hc => World.cell?_of_block (w := wr) (hl.block c hc.2.2.1 (by have := hc.1; omega))) fun c hc => ⟨by have := hc.1; omega, by have := hc.2.2.1; omega⟩
  rcases Own.made (F := rowF s cf zs) ho (fun j hj => rowL_get _ _ j hj) with ⟨h0, h1⟩ | ⟨g, cap, e, ho'⟩
  · injection h0 with h0 _ h2
    exact ⟨by omega, by rw [h1, Nat.zero_mul]; exact CellsS.zero, hx⟩
  · injection e with e1 e2 e3
    subst e1
    subst e3
    have hb := ho'.base_le
    have ho9 := ho'.of_block (hl.block g ho'.lt (by omega))
    exact ⟨ho'.len.1, ho9.cellsS ⟨by omega, ho9.lt⟩, hx⟩
end
theorem sumN_top {f : Nat → Nat} {n s : Nat} (h : ∀ i, i < n → f i ≤ s) : sumN f n ≤ n * s := by
  induction n with
  | zero => exact Nat.zero_le _
  | succ n ih =>
    rw [sumN, Nat.succ_mul]
    have := ih fun i hi => h i (by omega)
    have := h n (by omega)
    omega

/-- an expression of at most a size and a depth, and where it lies -/
def exP (s d : Nat) (S : Nat → Prop) (w : World) (x : Ex × EA) : Prop := ExIn S w x.1 x.2 ∧ x.1.size ≤ s ∧ x.1.depth ≤ d ∧ x.1.all nodeQ
theorem exP_moves (s d : Nat) : Moves (exP s d) := fun S T w w' x h hk hS => ⟨ExIn.keep hk hS _ _ h.1, h.2⟩
abbrev exC (x : Ex × EA) (j : Nat) : Value := x.1.cell x.2 j
theorem no_name : ({ data := #[] } : ByteArray).toList = [] := by first | rfl | decide +kernel | simp
/-- an expression with arguments -/
theorem node_out {b op m cv s d : Nat} {w w9 : World} {Av : Option Addr} {zs : Nat → Ex × EA} (ho : (op = 6 ∧ m = 1) ∨ ((op = 7 ∨ op = 8) ∧ 2 ≤ m ∧ m ≤ 3)) (hn : m ≤ cv)
    (hc : CellsS (fun i => w.heap.size ≤ i ∧ i < w9.heap.size) w9 Av (m * 6) (rowF 6 exC zs)) (hx : ∀ i, i < m → exP s d (fun i => w.heap.size ≤ i ∧ i < w9.heap.size) w9 (zs i)) (hk : Keeps b w w9) (hd : IsDeck w9 b) :
    ExprP (1 + 3 * s) (d + 1) b w (.returned (.agg #[.int .i64 op, .string { data := #[] }, .slice none 0 0, .int .i64 0, .int .i64 0, .slice Av m cv])) w9 := by
  have h1 : sumN (fun i => (zs i).1.size) m ≤ m * s := sumN_top fun i hi => (hx i hi).2.1
  have h2 : maxN (fun i => (zs i).1.depth) m ≤ d := maxN_lub fun i hi => (hx i hi).2.2.1
  have h3 : m * s ≤ 3 * s := Nat.mul_le_mul_right s (by omega)
  refine ⟨.mk op { data := #[] } 0 (fun _ => { data := #[] }) 0 0 m (fun i => (zs i).1), ⟨none, 0, Av, cv⟩, rfl, ⟨⟨Nat.zero_le _, Nat.le_refl _⟩, ⟨by unfold big; omega, hn⟩, CellsS.zero, fun i => (zs i).2, hc, fun i hi => (hx i hi).1⟩, ⟨?_, ?_, ⟨op, rfl, by omega, ?_, ?_⟩, fun i hi => (hx i hi).2.2.2⟩, hk, hd⟩
  · exact Nat.add_le_add_left (Nat.le_trans h1 h3) 1
  · rw [Nat.add_comm d 1]
    exact Nat.add_le_add_left h2 1
  · unfold tLo tHi
    rcases ho with ⟨rfl, rfl⟩ | ⟨rfl | rfl, h⟩
    · decide
    · rw [if_neg (by omega), if_pos (by omega), if_neg (by omega), if_pos (by omega)]; omega
    · rw [if_neg (by omega), if_pos (by omega), if_neg (by omega), if_pos (by omega)]; omega
  · rcases ho with ⟨rfl, rfl⟩ | ⟨rfl | rfl, h⟩ 
    · exact ⟨by rw [if_neg (by decide)]; exact no_name, rfl, rfl, rfl⟩
    · exact ⟨by rw [if_neg (by decide)]; exact no_name, rfl, rfl, rfl⟩
    · exact ⟨by rw [if_neg (by decide)]; exact no_name, rfl, rfl, rfl⟩
theorem ExprP.up {s d s' d' b : Nat} {w w1 : World} {r : Ending} {w2 : World} (h : ExprP s d b w1 r w2) (hk : Keeps b w w1) (hs : s ≤ s') (hd : d ≤ d') :
    ∃ (e : Ex) (a : EA), r = .returned (.agg (e.cells a)) ∧ ExIn (fun i => w1.heap.size ≤ i ∧ i < w2.heap.size) w2 e a ∧ (e.size ≤ s' ∧ e.depth ≤ d' ∧ e.all nodeQ) ∧ Keeps b w w2 ∧ IsDeck w2 b := by
  obtain ⟨e, a, hr, hin, ⟨h1, h2, h3⟩, h4, h5⟩ := h
  exact ⟨e, a, hr, hin, ⟨by omega, by omega, h3⟩, hk.trans h4, h5⟩
theorem expr_out {s d b G : Nat} {w w1 w2 w9 : World} {e : Ex} {a : EA} (hin : ExIn (fun i => w1.heap.size ≤ i ∧ i < w2.heap.size) w2 e a) (hz : e.size ≤ s ∧ e.depth ≤ d ∧ e.all nodeQ) (hk : Keeps b w w2) (hd : IsDeck w2 b) (hl : Leaves (fun k => k = G + 1) w2 w9) (hG : w.heap.size = G) (h1 : G + 1 < w1.heap.size) (hb : b < G) :
    ExprP s d b w (.returned (.agg (e.cells a))) w9 :=
  ⟨e, a, rfl, ExIn.keep (fun i o hi => World.cell?_of_block (w := w2) (hl.block i hi.2 (by omega))) (fun i hi => ⟨by omega, by have := hl.size; omega⟩) _ _ hin, hz, atom_keep hk hl hG, atom_deck hd hl hb⟩
end Go.Proofs.YtlbkhhbbkedhkaaGreatDoor
namespace Go.Proofs.YtlbkhhbbkedhkaaGreatDoor
open Go.RowKit
set_option linter.unusedVariables false

/-- the size of the largest expression of a depth -/
def szE : Nat → Nat
  | 0 => 0
  | d + 1 => 1 + 3 * szE d
theorem szE_pos (d : Nat) : 1 ≤ szE (d + 1) := by show 1 ≤ 1 + _; omega

theorem six_get {e : Ex} {a : EA} {y0 y1 y2 y3 y4 y5 : Value} (h : e.cells a = #[y0, y1, y2, y3, y4, y5]) : ∀ j, j < 6 → ([y0, y1, y2, y3, y4, y5] : List Value)[j]? = some (exC (e, a) j) := fun j hj => by
  have := Ex.cells_get e a j hj
  rw [h] at this
  exact this
theorem not_out {s d b G : Nat} {w w3 w4 w9 : World} {e : Ex} {a : EA} {y0 y1 y2 y3 y4 y5 : Value} {t : TypeId} (hin : ExIn (fun i => w3.heap.size ≤ i ∧ i < w4.heap.size) w4 e a) (hz : e.size ≤ s ∧ e.depth ≤ d ∧ e.all nodeQ) (hy : e.cells a = #[y0, y1, y2, y3, y4, y5])
    (hk : Keeps b w (w4.alloc (.cells #[y0, y1, y2, y3, y4, y5] t))) (hd : IsDeck (w4.alloc (.cells #[y0, y1, y2, y3, y4, y5] t)) b) (hl : Leaves (fun k => k = G + 1) (w4.alloc (.cells #[y0, y1, y2, y3, y4, y5] t)) w9) (hG : w.heap.size = G) (h1 : G + 1 < w3.heap.size) (hs : w3.heap.size ≤ w4.heap.size) (hb : b < G) :
    ExprP (1 + 3 * s) (d + 1) b w (.returned (.agg #[.int .i64 6, .string { data := #[] }, .slice none 0 0, .int .i64 0, .int .i64 0, .slice (some ⟨w4.heap.size, 0, none⟩) 1 1])) w9 := by
  have hs9 := hl.size
  have hal : (w4.alloc (.cells #[y0, y1, y2, y3, y4, y5] t)).heap.size = w4.heap.size + 1 := by simp
  refine node_out (op := 6) (m := 1) (zs := fun _ => (e, a)) (.inl ⟨rfl, rfl⟩) (Nat.le_refl _) (fun _ => ⟨w4.heap.size, 0, rfl, ⟨by omega, by omega⟩, fun j hj => ?_⟩) (fun i hi => ⟨ExIn.keep (fun i o hi => ?_) (fun i hi => ⟨by omega, by omega⟩) _ _ hin, hz⟩) (atom_keep hk hl hG) (atom_deck hd hl hb)
  · rw [Nat.zero_add, World.cell?_of_block (w := w4.alloc (.cells #[y0, y1, y2, y3, y4, y5] t)) (a := ⟨w4.heap.size, j, none⟩) (hl.block w4.heap.size (by omega) (by omega)), (Has.new w4 _ t).cell]
    have h := six_get hy j (by omega)
    unfold rowF
    rw [show j % 6 = j from Nat.mod_eq_of_lt (by omega), List.getElem?_toArray]
    exact h
  · rw [World.cell?_of_block (w := w4.alloc (.cells #[y0, y1, y2, y3, y4, y5] t)) (a := ⟨i, o, none⟩) (hl.block i (by omega) (by omega))]
    exact World.cell?_alloc_old w4 _ _ (show i ≠ w4.heap.size by omega)

set_option maxRecDepth 100000 in
set_option maxHeartbeats 8000000 in
theorem expr_any (b : Nat) (A An : Option Addr) (n c nn cn : Nat) (ats : Nat → Att) (f : Nat → ByteArray) : ∀ (d : Nat) (w : World), 1 ≤ d → d ≤ 3 → IsDeck w b → SchIn (off b w) w A n ats → NmIn (off b w) w An nn f →
    Calls Tryz.prog 52 #[.pointer (some ⟨b, 0, none⟩), .agg #[.slice A n c], .slice An nn cn, .int .i64 d] w (ExprP (szE d) d b w) := by
  intro d
  induction d with
  | zero => intro w h; omega
  | succ d ih =>
    intro w hd0 hd3 hd hs hnm
    have IH := Lib.hid ih
    have HD0 := Lib.hid hd
    have HSC := Lib.hid hs
    have HNM := Lib.hid hnm
    have hb := hd.lt
    have hn1 := hs.1
    have hnn := hnm.1
    have HXI := Lib.hid ex_info
    have HS1 := Lib.hid (szE_pos d)
    clear hd hs hnm ih
    obtain ⟨G, hG⟩ : ∃ G, w.heap.size = G := ⟨_, rfl⟩
    have HGE := Lib.hid hG
    obtain ⟨de, hde⟩ : ∃ z : Int, ((d + 1 : Nat) : Int) = z := ⟨_, rfl⟩
    rw [hde]
    have hwd : IntKind.i64.wrap (de - 1) = (d : Int) := by rw [IntKind.wrap_i64]; omega
    go_enter Tryz.func52, Tryz.ntmps52
    go_upto_region 1 with (fail)
    have HK : Hid (Keeps b w ((w.alloc (.cells #[.slice A n c] 56)).alloc (.cells #[.int .i64 0, .string { data := #[] }, .slice none 0 0, .int .i64 0, .int .i64 0, .slice none 0 0] 43))) := Lib.hid (((Keeps.refl b w).alloc _).alloc _)
    have HE := Lib.hid ((Has.new w #[.slice A n c] 56).alloc (.cells #[.int .i64 0, .string { data := #[] }, .slice none 0 0, .int .i64 0, .int .i64 0, .slice none 0 0] 43))
    have HR := Lib.hid (Has.new' (w.alloc (.cells #[.slice A n c] 56)) (w.heap.size + 1) #[.int .i64 0, .string { data := #[] }, .slice none 0 0, .int .i64 0, .int .i64 0, .slice none 0 0] 43 (by simp))
    have HD : Hid (IsDeck ((w.alloc (.cells #[.slice A n c] 56)).alloc (.cells #[.int .i64 0, .string { data := #[] }, .slice none 0 0, .int .i64 0, .int .i64 0, .slice none 0 0] 43)) b) := Lib.hid ((HD0.out.alloc _).alloc _)
    obtain ⟨W, hW⟩ : ∃ W, (w.alloc (.cells #[.slice A n c] 56)).alloc (.cells #[.int .i64 0, .string { data := #[] }, .slice none 0 0, .int .i64 0, .int .i64 0, .slice none 0 0] 43) = W := ⟨_, rfl⟩
    rw [hW] at HE HR HK HD ⊢
    rw [hG] at HE HR hb
    try rw [hG]
    clear hW hG HD0
    have hGw : w.heap.size = G := HGE.out
    go_wp2_with fail
    refine (next_any b 8 _ HD.out (by omega) (by omega)).mono ?_
    rintro e w2 ⟨v, rfl, v0, v1, hk2, hd2⟩
    replace HK := Lib.hid (HK.out.trans hk2)
    replace HD := Lib.hid hd2
    replace HE := Lib.hid (HE.out.keeps hk2 (by omega))
    replace HR := Lib.hid (HR.out.keeps hk2 (by omega))
    clear hk2 hd2
    have hl2 : G + 1 < w2.heap.size := HR.out.lt
    go_upto_region 2 with (fail)
    go_cut [14] (fun q wx => ∃ t : Bool, q = .bool t ∧ Hid (t = false → 1 ≤ d ∧ 4 ≤ v) ∧ wx = w2)
    case first =>
      by_cases h0 : de < 2
      · go_wp2_with fail
        go_meet
        exact ⟨_, rfl, Lib.hid fun c => (by cases c), rfl⟩
      · by_cases h1 : v < 4
        · go_wp2_with fail
          go_meet
          exact ⟨_, rfl, Lib.hid fun c => (by cases c), rfl⟩
        · go_wp2_with fail
          go_meet
          exact ⟨_, rfl, Lib.hid fun _ => ⟨by omega, by omega⟩, rfl⟩
    case rest =>
      obtain ⟨t, rfl, HT, rfl⟩ := hcut
      cases t with
      | true =>
        clear HT
        go_wp2_with fail
        refine (next_any b 12 _ HD.out (by omega) (by omega)).mono ?_
        rintro e w3 ⟨u, rfl, u0, u1, hk2, hd2⟩
        replace HK := Lib.hid (HK.out.trans hk2)
        replace HD := Lib.hid hd2
        replace HE := Lib.hid (HE.out.keeps hk2 (by omega))
        replace HR := Lib.hid (HR.out.keeps hk2 (by omega))
        clear hk2 hd2
        have HUP : Hid (∀ r w9, ExprP 1 1 b w r w9 → ExprP (szE (d + 1)) (d + 1) b w r w9) := Lib.hid fun r w9 h => by
          obtain ⟨e, a, h1, h2, ⟨h3, h4, h5⟩, h6, h7⟩ := h
          have := HS1.out
          exact ⟨e, a, h1, h2, ⟨by omega, by omega, h5⟩, h6, h7⟩
        by_cases hu : u = 10
        · subst hu
          go_wp2_with ((refine wpList_store_has ?_ 43 (.tmp 8) (.tmp 25) ?_ (G + 1) ?_ #[.int .i64 1, .string { data := #[] }, .slice none 0 0, .int .i64 0, .int .i64 0, .slice none 0 0] ?_ _ _ HR.out HXI.out ?_ ?_ ?_; rfl; rfl; rfl; rfl; rfl; rfl; intro w99 hh9 hl9))
          refine bodyPost_ret (results_cell_row rfl _ _ (G + 1) _ _ _ _ ?_ hh9 Tryz.underlying43 rfl HXI.out) rfl ?_
          · rfl
          · exact HUP.out _ _ (leaf_out (o := 1) (nw := 0) (ws := fun _ => { data := #[] }) (.inl rfl) ⟨by rw [if_neg (by decide)]; exact no_name, rfl, rfl, rfl⟩ (Nat.le_refl _) (by omega) CellsS.zero (atom_keep HK.out hl9 hGw) (atom_deck HD.out hl9 (by omega)))
        · by_cases hu2 : u = 11
          · subst hu2
            go_wp2_with ((refine wpList_store_has ?_ 43 (.tmp 8) (.tmp 28) ?_ (G + 1) ?_ #[.int .i64 2, .string { data := #[] }, .slice none 0 0, .int .i64 0, .int .i64 0, .slice none 0 0] ?_ _ _ HR.out HXI.out ?_ ?_ ?_; rfl; rfl; rfl; rfl; rfl; rfl; intro w99 hh9 hl9))
            refine bodyPost_ret (results_cell_row rfl _ _ (G + 1) _ _ _ _ ?_ hh9 Tryz.underlying43 rfl HXI.out) rfl ?_
            · rfl
            · exact HUP.out _ _ (leaf_out (o := 2) (nw := 0) (ws := fun _ => { data := #[] }) (.inr (.inl rfl)) ⟨by rw [if_neg (by decide)]; exact no_name, rfl, rfl, rfl⟩ (Nat.le_refl _) (by omega) CellsS.zero (atom_keep HK.out hl9 hGw) (atom_deck HD.out hl9 (by omega)))
          · have hq1 : (u == 10) = false := by rw [beq_eq_false_iff_ne]; exact hu
            have hq2 : (u == 11) = false := by rw [beq_eq_false_iff_ne]; exact hu2
            obtain ⟨e0, e1, e2⟩ := HE.out.rules
            have hl3 : G + 1 < w3.heap.size := HR.out.lt
            go_wp2_with fail
            refine (atom_any b A An n c nn cn ats f _ HD.out (HSC.out.keeps HK.out) (HNM.out.keeps HK.out)).mono ?_
            rintro r w4 hr4
            obtain ⟨e, a, rfl, hin, hz, hk4, hd4⟩ := hr4
            have HIN := Lib.hid hin
            have HZZ := Lib.hid hz
            replace HR := Lib.hid (HR.out.keeps hk4 (by omega))
            replace HK := Lib.hid (HK.out.trans hk4)
            replace HD := Lib.hid hd4
            have HONE := Lib.hid (Ex.cells_one e a)
            clear hin hz hk4 hd4 e0 e1 e2 IH
            have hy := (Ex.cells_is e a).symm
            obtain ⟨y0, y1, y2, y3, y4, y5, hyy⟩ : ∃ y0 y1 y2 y3 y4 y5, e.cells a = #[y0, y1, y2, y3, y4, y5] := ⟨_, _, _, _, _, _, hy⟩
            have HY := Lib.hid hyy
            rw [hyy] at HONE ⊢
            clear hy hyy
            go_wp2_with ((refine wpList_store_has ?_ 43 (.tmp 8) (.tmp 32) ?_ (G + 1) ?_ #[y0, y1, y2, y3, y4, y5] ?_ _ _ HR.out HXI.out ?_ ?_ ?_; rfl; rfl; rfl; rfl; rfl; exact HONE.out; intro w99 hh9 hl9))
            refine bodyPost_ret (results_cell_row rfl _ _ (G + 1) _ _ _ _ ?_ hh9 Tryz.underlying43 rfl HXI.out) rfl ?_
            · rfl
            · rw [← HY.out]
              exact HUP.out _ _ (expr_out HIN.out HZZ.out HK.out HD.out hl9 hGw hl3 hb)
      | false =>
        have hv4 := (HT.out rfl).2
        have hd1 := (HT.out rfl).1
        clear HT
        have h04 : ¬ v < 4 := by omega
        by_cases h6 : v < 6
        · obtain ⟨e0, e1, e2⟩ := HE.out.rules
          go_wp2_with fail
          refine (IH.out _ hd1 (by omega) HD.out (HSC.out.keeps HK.out) (HNM.out.keeps HK.out)).mono ?_
          rintro r w4 hr4
          obtain ⟨e, a, rfl, hin, hz, hk4, hd4⟩ := hr4
          have HIN := Lib.hid hin
          have HZZ := Lib.hid hz
          replace HR := Lib.hid (HR.out.keeps hk4 (by omega))
          replace HK := Lib.hid (HK.out.trans hk4)
          replace HD := Lib.hid hd4
          have HONE := Lib.hid (Ex.cells_one e a)
          have hs4 := hk4.size
          clear hin hz hk4 hd4 e0 e1 e2 IH
          have hy := (Ex.cells_is e a).symm
          obtain ⟨y0, y1, y2, y3, y4, y5, hyy⟩ : ∃ y0 y1 y2 y3 y4 y5, e.cells a = #[y0, y1, y2, y3, y4, y5] := ⟨_, _, _, _, _, _, hy⟩
          have HY := Lib.hid hyy
          rw [hyy] at HONE ⊢
          clear hy hyy
          have HR5 := Lib.hid (HR.out.alloc (.cells #[y0, y1, y2, y3, y4, y5] 43))
          go_wp2_with ((refine wpList_store_has ?_ 43 (.tmp 8) (.tmp 43) ?_ (G + 1) ?_ #[.int .i64 6, .string { data := #[] }, .slice none 0 0, .int .i64 0, .int .i64 0, .slice (some ⟨w4.heap.size, 0, none⟩) 1 1] ?_ _ _ HR5.out HXI.out ?_ ?_ ?_; rfl; rfl; rfl; rfl; rfl; rfl; intro w99 hh9 hl9))
          refine bodyPost_ret (results_cell_row rfl _ _ (G + 1) _ _ _ _ ?_ hh9 Tryz.underlying43 rfl HXI.out) rfl ?_
          · rfl
          · exact not_out HIN.out HZZ.out HY.out (HK.out.alloc _) (HD.out.alloc _) hl9 hGw hl2 hs4 hb
        · have hwo : IntKind.i64.wrap (v + 1) = v + 1 := by rw [IntKind.wrap_i64]; omega
          go_upto_region 12 with (fail)
          obtain ⟨op, hop⟩ : ∃ op : Nat, v + 1 = op := ⟨(v + 1).toNat, by omega⟩
          have HOP : Hid (op = 7 ∨ op = 8) := Lib.hid (by omega)
          rw [hop]
          have HH5 := Lib.hid (Has.new wc #[.int .i64 op, .string { data := #[] }, .slice none 0 0, .int .i64 0, .int .i64 0, .slice none 0 0] 43)
          have HR5 := Lib.hid (HR.out.alloc (.cells #[.int .i64 op, .string { data := #[] }, .slice none 0 0, .int .i64 0, .int .i64 0, .slice none 0 0] 43))
          have HE5 := Lib.hid (HE.out.alloc (.cells #[.int .i64 op, .string { data := #[] }, .slice none 0 0, .int .i64 0, .int .i64 0, .slice none 0 0] 43))
          have HK5 := Lib.hid (HK.out.alloc (.cells #[.int .i64 op, .string { data := #[] }, .slice none 0 0, .int .i64 0, .int .i64 0, .slice none 0 0] 43))
          have HD5 : Hid (IsDeck (wc.alloc (.cells #[.int .i64 op, .string { data := #[] }, .slice none 0 0, .int .i64 0, .int .i64 0, .slice none 0 0] 43)) b) := Lib.hid (HD.out.alloc _)
          obtain ⟨W5, hW⟩ : ∃ W, wc.alloc (.cells #[.int .i64 op, .string { data := #[] }, .slice none 0 0, .int .i64 0, .int .i64 0, .slice none 0 0] 43) = W := ⟨_, rfl⟩
          obtain ⟨H, hH⟩ : ∃ H, wc.heap.size = H := ⟨_, rfl⟩
          rw [hW] at HH5 HR5 HE5 HK5 HD5 ⊢
          rw [hH] at HH5 hl2 ⊢
          clear hW hH hop hwo HR HE HK HD h6 h04 hv4 v0 v1
          go_wp2_with fail
          refine (range_any b 2 3 _ HD5.out (by omega) (by omega) (by omega) (by omega)).mono ?_
          rintro e w5 ⟨kz, rfl, k0, k1, hk2, hd2⟩
          replace HK5 := Lib.hid (HK5.out.trans hk2)
          replace HD5 := Lib.hid hd2
          replace HH5 := Lib.hid (HH5.out.keeps hk2 (by omega))
          replace HR5 := Lib.hid (HR5.out.keeps hk2 (by omega))
          replace HE5 := Lib.hid (HE5.out.keeps hk2 (by omega))
          clear hk2 hd2
          obtain ⟨K0, hK0⟩ : ∃ K : Nat, kz = K := ⟨kz.toNat, by omega⟩
          subst hK0
          have hK1 : 2 ≤ K0 ∧ K0 ≤ 3 := by omega
          clear k0 k1
          obtain ⟨i0, hi0, hz0, hz1, hz2⟩ := info_parts ex_all
          have HI := Lib.hid hi0
          have HZ0 := Lib.hid hz0
          have HZ1 := Lib.hid hz1
          have HZ2 := Lib.hid hz2
          clear hi0 hz0 hz1 hz2
          go_wp2_with fail
          go_loopw [11] (fun kx wr => ∃ (m k : Nat) (Av : Option Addr) (cv : Nat) (zs : Nat → Ex × EA), m + k = K0 ∧ kx = .int .i64 k ∧ Hid (wr.ownsRow (H + 1) 43 6 (.slice Av m cv) m (rowL (m * 6) (rowF 6 exC zs))) ∧ Hid (∀ i, i < m → exP (szE d) d (aS (G + 1) H Av wr) wr (zs i)) ∧ Hid (Has wr H #[.int .i64 op, .string { data := #[] }, .slice none 0 0, .int .i64 0, .int .i64 0, .slice Av m cv] 43) ∧ Hid (Has wr (G + 1) #[.int .i64 0, .string { data := #[] }, .slice none 0 0, .int .i64 0, .int .i64 0, .slice none 0 0] 43) ∧ Hid (Has wr G #[.slice A n c] 56) ∧ Hid (Keeps b w wr) ∧ Hid (IsDeck wr b)) (fun kx _ => (intOf kx).toNat)
          case atStart => exact ⟨0, K0, none, 0, fun _ => (.bot, ⟨none, 0, none, 0⟩), by omega, rfl, Lib.hid ⟨rfl, .inl ⟨rfl, rfl⟩⟩, Lib.hid (fun i hi => by omega), HH5, HR5, HE5, HK5, HD5⟩
          case round =>
            clear HH5 HR5 HE5 HK5 HD5
            obtain ⟨m, k, Av, cv, zs, hmk, rfl, HO, HA, HH, HR, HE, HK, HD⟩ := hrel
            have hsH : H < wr.heap.size := HH.out.lt
            by_cases hk0 : 0 < k
            · have hk1 : (0 : Int) < k := by omega
              have hwk : IntKind.i64.wrap ((k : Int) - 1) = ((k - 1 : Nat) : Int) := by rw [IntKind.wrap_i64]; omega
              obtain ⟨e0, e1, e2⟩ := HE.out.rules
              obtain ⟨z0, z1, z2⟩ := HH.out.rules
              have HBB : Hid (Keeps b wr wr) := Lib.hid (Keeps.refl _ _)
              go_upto_region 15 with (fail)
              go_region_law (first
                | (go_simp; go_at_call 52; refine (IH.out _ hd1 (by omega) HD.out.drew (HSC.out.keeps HK.out.drew) (HNM.out.keeps HK.out.drew)).mono ?_; rintro r w6 hr6; obtain ⟨e, a, rfl, hin, hz, hk6, hd6⟩ := hr6; have HIN : Hid (ExIn (fun i => wr.heap.size ≤ i ∧ i < w6.heap.size) w6 e a) := Lib.hid hin; have HZZ := Lib.hid hz; replace HBB : Hid (Keeps b wr w6) := Lib.hid (HBB.out.drew.trans hk6); have HD6 := Lib.hid hd6; have HH6 := Lib.hid (HH.out.keeps HBB.out (by omega)); have HO6 : Hid (w6.ownsRow (H + 1) 43 6 (.slice Av m cv) m (rowL (m * 6) (rowF 6 exC zs))) := Lib.hid (own_keeps HO.out HBB.out (by omega)); have hs6 := HBB.out.size; obtain ⟨z3, z4, z5⟩ := HH6.out.rules; (obtain ⟨y0, y1, y2, y3, y4, y5, hyy⟩ : ∃ y0 y1 y2 y3 y4 y5, e.cells a = #[y0, y1, y2, y3, y4, y5] := ⟨_, _, _, _, _, _, (Ex.cells_is e a).symm⟩); have HY := Lib.hid hyy; (have HONE : Hid ((#[y0, y1, y2, y3, y4, y5] : Array Value).toList.all (·.oneCell') = true) := Lib.hid (by rw [← hyy]; exact Ex.cells_one e a)); rw [hyy]; clear hin hz hk6 hd6 hyy)
                | (refine step_append_lies _ (by rfl) _ _ _ (by rfl) (H + 1) 43 i0 _ 6 88 Tryz.underlying41 HI.out HZ0.out HZ1.out HZ2.out rfl (by omega) (.slice Av m cv) m (rowL (m * 6) (rowF 6 exC zs)) (by rfl) (HO6.out.alloc _) ⟨w6.heap.size, 0, none⟩ 1 1 [y0, y1, y2, y3, y4, y5] (by rfl) (by rfl) (World.news_of_block (cs := #[y0, y1, y2, y3, y4, y5]) (t := 43) (fr := (0, 0)) (heap_alloc_new w6 _)) (List.all_eq_true.1 HONE.out) (by omega) (by unfold maxLen; omega) (by omega) (by simp; omega) (w6.heap.size + 1) (by simp) ?_; intro gg cap w7 hown hgrow hat hlt7; (have hgz := fun i => (World.cell?_of_block (w := w6.alloc (.cells #[y0, y1, y2, y3, y4, y5] 43)) (a := ⟨H, i, none⟩) (hgrow.block H (by simp; omega) (fun e => by have := (own_lt HO6.out e.symm).2; omega)))); (have hgf := fun i => (World.frozen?_of_block (w := w6.alloc (.cells #[y0, y1, y2, y3, y4, y5] 43)) (a := ⟨H, i, none⟩) (hgrow.block H (by simp; omega) (fun e => by have := (own_lt HO6.out e.symm).2; omega))))))
              all_goals
                have hbm : Below H w6 (w7.setCell ⟨H, 5, none⟩ (.slice (some ⟨gg, 0, none⟩) (m + 1) cap)) := Below.setCell (Below.grown (Below.alloc (Below.refl H w6) (by omega) (.cells #[y0, y1, y2, y3, y4, y5] 43)) hgrow (by simp; omega) (fun q hq => by have := (own_lt HO6.out hq).2; omega)) (Nat.le_refl H) _
                rw [rowF_snoc (s := 6) (vs := [y0, y1, y2, y3, y4, y5]) (cf := exC) (x := (e, a)) rfl (six_get HY.out)] at hown
                have HO7 := Lib.hid (own_keeps (b := H) hown ((Keeps.refl H w7).put 5 (.slice (some ⟨gg, 0, none⟩) (m + 1) cap)) (Nat.lt_succ_self H))
                have HA7 := Lib.hid (row_next (w8 := w7.setCell ⟨H, 5, none⟩ (.slice (some ⟨gg, 0, none⟩) (m + 1) cap)) (x := (e, a)) (exP_moves (szE d) d) HA.out HBB.out (by omega) HO.out ⟨HIN.out, HZZ.out⟩ hgrow hat hsH (by omega) (fun i o hi => World.cell?_setCell_other w7 _ _ _ (fun e => by injection e with e; omega)) (by simp))
                have HH7 : Hid (Has (w7.setCell ⟨H, 5, none⟩ (.slice (some ⟨gg, 0, none⟩) (m + 1) cap)) H #[.int .i64 op, .string { data := #[] }, .slice none 0 0, .int .i64 0, .int .i64 0, (.slice (some ⟨gg, 0, none⟩) (m + 1) cap)] 43) := Lib.hid (Has.put (w := w7) (cs := #[.int .i64 op, .string { data := #[] }, .slice none 0 0, .int .i64 0, .int .i64 0, .slice Av m cv]) ((hgrow.block H (by simp; omega) (fun e => by have := (own_lt HO6.out e.symm).2; omega)).trans (HH6.out.alloc _)) 5 _)
                have HR7 := Lib.hid ((HR.out.keeps HBB.out (by omega)).below hbm (by omega))
                have HE7 := Lib.hid ((HE.out.keeps HBB.out (by omega)).below hbm (by omega))
                have HK7 := Lib.hid ((HK.out.trans HBB.out).then hbm (by omega))
                have HD7 := Lib.hid (HD6.out.below hbm (by omega))
                clear hown hgrow hat hgz hgf hbm HO HA HH HR HE HK HD HO6 HH6 HD6 HIN HZZ HBB z0 z1 z2 z3 z4 z5 e0 e1 e2 hlt7
                go_wp2_with fail
                go_roundw
                case rel => exact ⟨m + 1, k - 1, some ⟨gg, 0, none⟩, cap, _, by omega, by rfl, HO7, HA7, HH7, HR7, HE7, HK7, HD7⟩
                case measure => simp [intOf]; omega
            · have hk00 : k = 0 := by omega
              subst hk00
              go_wp2_with (first
                | (refine wpList_load_has ?_ 43 (.tmp 10) ?_ H ?_ _ _ _ HH.out Tryz.underlying43 ?_ HXI.out ?_; rfl; rfl; rfl; rfl)
                | (refine wpList_store_has ?_ 43 (.tmp 8) (.tmp 64) ?_ (G + 1) ?_ #[.int .i64 op, .string { data := #[] }, .slice none 0 0, .int .i64 0, .int .i64 0, .slice Av m cv] ?_ _ _ HR.out HXI.out ?_ ?_ ?_; rfl; rfl; rfl; rfl; rfl; rfl; intro w99 hh9 hl9))
              refine bodyPost_ret (results_cell_row rfl _ _ (G + 1) _ _ _ _ ?_ hh9 Tryz.underlying43 rfl HXI.out) rfl ?_
              · rfl
              · obtain ⟨u0, u1, u2⟩ := row_out (exP_moves (szE d) d) HA.out HO.out hl9 (Nat.le_refl _) (by omega)
                subst hGw
                exact node_out (.inr ⟨HOP.out, by omega, by omega⟩) u0 u1 u2 (atom_keep HK.out hl9 rfl) (atom_deck HD.out hl9 hb)
end Go.Proofs.YtlbkhhbbkedhkaaGreatDoor
