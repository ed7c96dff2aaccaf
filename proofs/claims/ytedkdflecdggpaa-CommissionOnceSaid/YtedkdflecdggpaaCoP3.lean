/- commission.convert, with the function that Profit hands it. -/
import Derived.Test.YtedkdflecdggpaaCoP2
import Derived.Test.YtedkdflecdggpaaQuads
import Derived.Deep.AppendLies
import Derived.KernelRfl
namespace Go.Proofs.Ytedkdflecdggpaa
open Go.RowKit
set_option linter.unusedVariables false

set_option maxRecDepth 100000 in
theorem prof_info : (Try.prog.info? 42).map (fun i => (i.zero, i.size, i.bytes)) = some (some (.agg #[.int .i64 0, .int .i64 0, .int .i64 0, .int .i64 0]), 4, 32) := by kernel_rfl

/-- what holds while convert runs: i years are known to the deficits v, m accounts lie in R -/
structure PCon (w wr : World) (bs be bd bc br bf : Nat) (x : Int) (c : Nat) (rt : Int) (p l : Nat → Int) (v : Value) (i : Nat) (R : Value) (m : Nat) : Prop where
  env : PEnv wr bs be bd bc br bf x c rt v
  own : wr.ownsRow w.heap.size 3 1 v i (numsL i (Co.defs p l x c i))
  row : wr.ownsRow w.heap.size 42 4 R m (quadL m (Co.acct p l x rt c))
  lv : Leaves (fun j => j = bd) w wr
  lie : PLie w.heap.size bs be bd bc br bf

section
variable {w wr w' : World} {bs be bd bc br bf : Nat} {x : Int} {c : Nat} {rt : Int} {p l : Nat → Int} {v : Value} {i : Nat} {R : Value} {m : Nat}
theorem PCon.below (h : PCon w wr bs be bd bc br bf x c rt p l v i R m) (hb : Below wr.heap.size wr w') : PCon w w' bs be bd bc br bf x c rt p l v i R m :=
  ⟨h.env.below h.lie (hb.mono h.lv.size), own_below h.own hb, own_below h.row hb, h.lv.step hb, h.lie⟩
theorem PCon.year (h : PCon w wr bs be bd bc br bf x c rt p l v i R m) {v' : Value} (h1 : PEnv w' bs be bd bc br bf x c rt v') (h2 : w'.ownsRow w.heap.size 3 1 v' (i + 1) (numsL (i + 1) (Co.defs p l x c (i + 1)))) (h3 : Leaves (fun k => k = bd ∨ v.ownBlock = some k) wr w') :
    PCon w w' bs be bd bc br bf x c rt p l v' (i + 1) R m := by
  refine ⟨h1, h2, own_leaves h.row h3 fun k hk hc => ?_, h.lv.trans' h3 fun k hk hc => ?_, h.lie⟩
  · rcases hc with e | e
    · have := own_lt h.row hk
      have := h.lie.ld
      omega
    · exact own_ne h.row h.own (by decide) hk e
  · rcases hc with e | e
    · exact e
    · have := own_lt h.own e
      omega
theorem PCon.app {R' : Value} {w4 : World} {o : Obj} (h : PCon w wr bs be bd bc br bf x c rt p l v i R m) (h1 : w4.ownsRow w.heap.size 42 4 R' (m + 1) (quadL (m + 1) (Co.acct p l x rt c))) (hg : (wr.alloc o).grownBy w4 R.ownBlock) :
    PCon w w4 bs be bd bc br bf x c rt p l v i R' (m + 1) := by
  have hL : Leaves (fun k => R.ownBlock = some k) wr w4 := ((Leaves.refl _ wr).alloc o).grown hg fun k hk => .inl hk
  have hb : Below w.heap.size wr w4 := hL.below (fun k hk => (own_lt h.row hk).2) h.lv.size
  refine ⟨h.env.below h.lie hb, own_leaves h.own hL fun k hk hc => own_ne h.own h.row (by decide) hk hc, h1, h.lv.trans' hL fun k hk hc => ?_, h.lie⟩
  have := own_lt h.row hc
  omega
end

/-- what convert returns -/
def ConPost (bs be bd bc br bf : Nat) (x : Int) (c : Nat) (rt : Int) (n : Nat) (F : Nat → Nat → Int) (w : World) (e : Ending) (w' : World) : Prop :=
  ∃ (A : Option Addr) (cap : Nat) (v : Value), e = .returned (.slice A n cap) ∧ PEnv w' bs be bd bc br bf x c rt v ∧ Leaves (fun k => k = bd) w w' ∧ Quads w' w'.heap.size A n F

set_option maxRecDepth 100000 in
set_option maxHeartbeats 4000000 in
theorem convert_any (A : Option Addr) (n ca : Nat) (p l : Nat → Int) (bs be bd bc br bf : Nat) (x : Int) (c : Nat) (rt : Int) (w : World) (hl : PLie w.heap.size bs be bd bc br bf) (hx : Co.rateP x) (hrt : Co.rateP rt) (hc : c ≤ 20) (hn : n ≤ 20)
    (hy : ∀ k, k < n → Co.yearP p l k) (henv : PEnv w bs be bd bc br bf x c rt (.slice none 0 0)) (hA : ∀ ad, A = some ad → 0 < n → ad.block ≠ bd) (hp : Pairs w w.heap.size A n p l) :
    Calls Try.prog 36 #[.slice A n ca, .func (.func 37) #[] #[.pointer (some ⟨bs, 0, none⟩), .pointer (some ⟨be, 0, none⟩), .pointer (some ⟨bd, 0, none⟩), .pointer (some ⟨bc, 0, none⟩), .pointer (some ⟨br, 0, none⟩)]] w
      (ConPost bs be bd bc br bf x c rt n (Co.acct p l x rt c) w) := by
  obtain ⟨i0, hi0, hz0, hz1, hz2⟩ := info_parts prof_info
  obtain ⟨W1, hmk, ho, hg⟩ := run_make_own (P := Try.prog) w w.heap.size 38 42 i0 (.agg #[.int .i64 0, .int .i64 0, .int .i64 0, .int .i64 0]) 4 Try.underlying38 hi0 hz0 hz1 .i64 .i64 n (by rw [hz2]; omega) (by unfold maxLen; omega) (Nat.le_refl _)
  have HI := Lib.hid hi0
  have HZ0 := Lib.hid hz0
  have HZ1 := Lib.hid hz1
  have HZ2 := Lib.hid hz2
  have hb1 : Below w.heap.size w W1 := (Below.refl _ _).grown hg (Nat.le_refl _) (fun _ h => by cases h)
  have HC : Hid (PCon w W1 bs be bd bc br bf x c rt p l (.slice none 0 0) 0 (.slice (some ⟨w.heap.size, 0, none⟩) 0 n) 0) := Lib.hid ⟨henv.below hl hb1, World.ownsRow_nil _ _ _ _, ho, (Leaves.refl _ w).step hb1, hl⟩
  have HP : Hid (∀ wr : World, Leaves (fun j => j = bd) w wr → Pairs wr wr.heap.size A n p l) := Lib.hid fun wr h h0 => Cells.leaves hp h (fun ad e => hA ad e (by omega)) h0
  have HY := Lib.hid hy
  have CY : Hid (∀ (i : Nat) (v R : Value) (m : Nat) (W : World), i < n → PCon w W bs be bd bc br bf x c rt p l v i R m → Calls Try.prog 37 #[.agg #[.int .i64 (p i), .int .i64 (l i)], .pointer (some ⟨bs, 0, none⟩), .pointer (some ⟨be, 0, none⟩), .pointer (some ⟨bd, 0, none⟩), .pointer (some ⟨bc, 0, none⟩), .pointer (some ⟨br, 0, none⟩)] W
      (P2Post w.heap.size bs be bd bc br bf x c rt v (i + 1) (Co.defs p l x c (i + 1)) (Co.acct p l x rt c i) W)) := Lib.hid fun i v R m W hi h =>
    year_any p l i w.heap.size bs be bd bc br bf x c rt v W hl h.lv.size hx hrt hc (by omega) (fun k hk => HY.out k (by omega)) h.env h.own
  clear hi0 hz0 hz1 hz2 ho hg hb1 henv hl hp hA hy hx hrt hc HY
  go_enter Try.func36, Try.ntmps36
  go_wp2_with fail
  clear hmk
  go_loopw [5, 7, 13] (fun R _ ix wr => ∃ (k : Nat) (v : Value), k ≤ n ∧ ix = .int .i64 k ∧ Hid (PCon w wr bs be bd bc br bf x c rt p l v k R k)) (fun _ _ ix _ => n - (intOf ix).toNat)
  case atStart => exact ⟨0, _, Nat.zero_le _, rfl, HC⟩
  case round =>
    clear HC
    obtain ⟨k, v, hk, rfl, HC⟩ := hrel
    by_cases hlt : k < n
    · obtain ⟨b, o, rfl, hbl, hc0, hc1⟩ := (HP.out _ HC.out.lv).get hlt
      have hk1 : (k : Int) < n := by omega
      obtain ⟨pk, hpk⟩ : ∃ q, p k = q := ⟨_, rfl⟩
      obtain ⟨lk, hlk⟩ : ∃ q, l k = q := ⟨_, rfl⟩
      have HCK := Lib.hid (CY.out k v u5 k)
      rw [hpk, hlk] at HCK
      rw [hpk] at hc0
      rw [hlk] at hc1
      clear hpk hlk CY
      go_upto_region 5 with (fail)
      obtain ⟨W, hW⟩ : ∃ W, wr.alloc (.cells #[.int .i64 pk, .int .i64 lk] 56) = W := ⟨_, rfl⟩
      replace HC : Hid (PCon w W bs be bd bc br bf x c rt p l v k u5 k) := Lib.hid (by rw [← hW]; exact HC.out.below ((Below.refl _ _).alloc (Nat.le_refl _) _))
      have hyr : Has W wr.heap.size #[.int .i64 pk, .int .i64 lk] 56 := by rw [← hW]; exact Has.new _ _ _
      obtain ⟨a0, a1, a2⟩ := hyr.rules
      rw [hW]
      clear hW hc0 hc1 hyr HP
      obtain ⟨Y, hY⟩ : ∃ Y, wr.heap.size = Y := ⟨_, rfl⟩
      rw [hY] at a0 a1 a2 ⊢
      clear hY
      have HNL := Lib.hid (quadL_succ k (Co.acct p l x rt c))
      have HCC : Hid (∀ w' v', PEnv w' bs be bd bc br bf x c rt v' → w'.ownsRow w.heap.size 3 1 v' (k + 1) (numsL (k + 1) (Co.defs p l x c (k + 1))) → Leaves (fun j => j = bd ∨ v.ownBlock = some j) W w' → PCon w w' bs be bd bc br bf x c rt p l v' (k + 1) u5 k) := Lib.hid fun w' v' h1 h2 h3 => HC.out.year h1 h2 h3
      obtain ⟨Z, hZ⟩ : ∃ Z, Co.acct p l x rt c k = Z := ⟨_, rfl⟩
      rw [hZ] at HNL HCK
      clear hZ
      go_wp2_with fail
      refine (HCK.out _ hlt HC.out).mono ?_
      rintro e w' ⟨rfl, v', h1, h2, h3, _⟩
      replace HC := Lib.hid (HCC.out _ _ h1 h2 h3)
      clear h1 h2 h3 HCC HCK a0 a1 a2
      obtain ⟨z0, hz0⟩ : ∃ z, Z 0 = z := ⟨_, rfl⟩
      obtain ⟨z1, hz1⟩ : ∃ z, Z 1 = z := ⟨_, rfl⟩
      obtain ⟨z2, hz2⟩ : ∃ z, Z 2 = z := ⟨_, rfl⟩
      obtain ⟨z3, hz3⟩ : ∃ z, Z 3 = z := ⟨_, rfl⟩
      rw [hz0, hz1, hz2, hz3] at HNL ⊢
      clear hz0 hz1 hz2 hz3
      have hs := HC.out.lv.size
      go_wp2_with ((at_builtin; refine wpList_append_lies _ rfl _ _ 38 rfl w.heap.size 42 i0 _ 4 32 Try.underlying38 HI.out HZ0.out HZ1.out HZ2.out rfl (by omega) u5 k (quadL k (Co.acct p l x rt c)) rfl (HC.out.row.alloc _) ⟨w'.heap.size, 0, none⟩ 1 1 [.int .i64 z0, .int .i64 z1, .int .i64 z2, .int .i64 z3] rfl rfl (World.news_of_block (cs := #[.int .i64 z0, .int .i64 z1, .int .i64 z2, .int .i64 z3]) (t := 42) (fr := (0, 0)) (heap_alloc_new w' _)) (by simp [Value.oneCell']) (by omega) (by unfold maxLen; omega) (by omega) (by simp; omega) (w'.heap.size + 1) (by simp) ?_; intro g cap w4 hown hgrow hat hlt4; have HC2 := Lib.hid (HC.out.app (by rw [HNL.out]; exact hown) hgrow); clear hgrow hat hlt4 hown))
      go_roundw
      case rel => exact ⟨k + 1, v', by omega, by go_num, HC2⟩
      case measure => simp [intOf]; omega
    · obtain rfl : k = n := by omega
      obtain ⟨A', cap, rfl⟩ : ∃ A' cap, u5 = .slice A' k cap := by
        rcases HC.out.row.2 with ⟨hv, hv0⟩ | ⟨g, cap, cur, hv, _⟩
        · exact ⟨none, 0, by rw [hv, hv0]⟩
        · exact ⟨_, cap, hv⟩
      go_wp2_with fail
      go_ret
      exact ⟨A', cap, v, rfl, HC.out.env, HC.out.lv, Quads.of_own HC.out.row⟩
end Go.Proofs.Ytedkdflecdggpaa
