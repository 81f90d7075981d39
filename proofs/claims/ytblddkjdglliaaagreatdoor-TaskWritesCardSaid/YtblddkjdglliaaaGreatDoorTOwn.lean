/- The walk of TaskOwn. Conditions: hash.turns holds its numbers; the data's cells are had. -/
import Derived.Test.YtblddkjdglliaaaGreatDoorTFull
import Derived.Test.YtblddkjdglliaaaGreatDoorZeros
import Derived.Test.YtblddkjdglliaaaGreatDoorOwnP
namespace Go.Proofs.YtblddkjdglliaaaGreatDoor
open Go.RowKit

theorem HB.set_ne {w : World} {v : Value} {bs : List Int} (h : HB w v bs) {a : Addr} (hn : ∀ k, blkOf v = some k → k ≠ a.block) (x : Value) : HB (w.setCell a x) v bs := by
  obtain ⟨A, c, rfl, h2, h3, h4, h5, h6⟩ := h
  refine ⟨A, c, rfl, h2, h3, h4, h5, fun hp => ?_⟩
  obtain ⟨b, o, cur, fr, rfl, hb, hc⟩ := h6 hp
  exact ⟨b, o, cur, fr, rfl, blk_setCell_ne hb (hn b rfl) x, hc⟩
theorem HI.set_ne {w : World} {v : Value} {bs : List Int} (h : HI w v bs) {a : Addr} (hn : ∀ k, blkOf v = some k → k ≠ a.block) (x : Value) : HI (w.setCell a x) v bs := by
  obtain ⟨A, c, rfl, h2, h3, h6⟩ := h
  refine ⟨A, c, rfl, h2, h3, fun hp => ?_⟩
  obtain ⟨b, o, cur, fr, rfl, hb, hc⟩ := h6 hp
  exact ⟨b, o, cur, fr, rfl, blk_setCell_ne hb (hn b rfl) x, hc⟩
theorem Src.of_HI {w : World} {A : Option Addr} {n c : Nat} {xs : List Int} (h : HI w (.slice A n c) xs) : Src w 1 A n (ints .i64 xs) := by
  obtain ⟨hn, _, hc⟩ := h.toC.cell
  refine ⟨by simp [ints_length, hn], fun hp => ?_⟩
  obtain ⟨b, o, rfl, _⟩ := hc 0 hp
  refine ⟨_, rfl, fun j u hu => ?_⟩
  have hj : j < xs.length := by rw [← ints_length .i64]; exact (List.getElem?_eq_some_iff.1 hu).1
  obtain ⟨b', o', e, hc'⟩ := hc j (by omega)
  cases e
  rw [add_lit, hc']
  rw [ints_get _ _ _ hj] at hu
  exact hu
theorem empty_own (w : World) (e : TypeId) : (w.alloc (.cells #[] e)).ownsRow w.heap.size e 1 (.slice (some ⟨w.heap.size, 0, none⟩) 0 0) 0 [] :=
  World.ownsRow_lit (base := w.heap.size) (e := e) (size := 1) w #[] 0 (Nat.le_refl _) (by unfold maxLen; omega) (by simp)
def tO (xs : List Int) : TaskM := (newT 0 1 kKey xs).planned_ [1, 1] 2 0 1 1
def locsO : List Int := targetsL weightL 16 [1, 1] 2
theorem locsO_perm : locsO.Perm [0, 1] := by
  have h1 : insL [1, 1] = [0, 1] := by rfl
  have h2 := orderL_perm weightL 16 [0, 1]
  unfold locsO targetsL
  rw [h1, if_pos (by decide), List.take_of_length_le (by rw [h2.length_eq]; decide)]
  exact h2
theorem strsO (xs : List Int) (h0 : 0 < xs.length) (h16 : xs.length ≤ 16) : (tO xs).strs = [⟨16, 1, locsO⟩] := by
  show planL [1, 1] 2 0 1 1 (countN 2 xs.length) = _
  have h3 : countN 2 xs.length = 1 := by
    unfold countN
    rw [if_neg (by omega), Nat.div_eq_of_lt (by omega)]
  rw [h3]
  rfl
theorem stepO (xs : List Int) (h0 : 0 < xs.length) (h16 : xs.length ≤ 16) (m : PoolM) : (tO xs).step 2 0 m 0 = m.store (locsO[0]?.getD 0) 16 0 (shardL 2 0 xs 0 0) := by
  unfold TaskM.step TaskM.locAt
  show (if 0 < (tO xs).strs.length * 2 then m.store ((((tO xs).strs[0 / 2]?.getD StripeM.zero).locs[0 % 2]?.getD 0)) ((tO xs).strs[0 / 2]?.getD StripeM.zero).id (0 % 2 : Nat) (shardL 2 0 xs (0 / 2) (0 % 2)) else _) = _
  rw [strsO xs h0 h16, if_pos (by decide)]
  rfl

set_option maxRecDepth 100000 in
set_option maxHeartbeats 2000000 in
theorem taskOwn_walk (A : Option Addr) (n c : Nat) (B : Option Addr) (sn sc : Nat) (xs : List Int) (w : World) (hT : Turns w) (hx : Handed w A n xs) :
    Calls Tryz.prog 7 #[.slice A n c, .slice B sn sc] w fun e w' => e = .returned (.bool true) ∧ Below w.heap.size w w' := by
  have HT := Lib.hid hT
  have HX := Lib.hid hx
  have hxl := hx.1
  have hxr := Lib.hid hx.2.1
  clear hT hx
  have AN := Lib.hid (answers_any w HT.out)
  by_cases h0 : n = 0
  · have d0 : ((n : Int) == 0) = true := by simp [h0]
    go_enter Tryz.func7, Tryz.ntmps7
    go_wp2_with fail
    refine AN.out.mono ?_
    rintro e w' ⟨rfl, hB⟩
    go_wp2
    go_ret
    exact ⟨rfl, hB⟩
  have d0 : ((n : Int) == 0) = false := by simp; omega
  by_cases hbig : 16 < n
  · have d1 : decide (16 < (n : Int)) = true := decide_eq_true (by omega)
    go_enter Tryz.func7, Tryz.ntmps7
    go_wp2_with fail
    refine AN.out.mono ?_
    rintro e w' ⟨rfl, hB⟩
    go_wp2
    go_ret
    exact ⟨rfl, hB⟩
  have d1 : decide (16 < (n : Int)) = false := decide_eq_false (by omega)
  by_cases hbig2 : 12 < sn
  · have d2 : decide (12 < (sn : Int)) = true := decide_eq_true (by omega)
    go_enter Tryz.func7, Tryz.ntmps7
    go_wp2_with fail
    refine AN.out.mono ?_
    rintro e w' ⟨rfl, hB⟩
    go_wp2
    go_ret
    exact ⟨rfl, hB⟩
  have d2 : decide (12 < (sn : Int)) = false := decide_eq_false (by omega)
  clear AN
  have hle := own_zero (empty_own w 5)
  replace hle := Lib.hid hle
  go_enter Tryz.func7, Tryz.ntmps7
  go_wp2_with (at_builtin; refine app_arm Tryz.E8 _ rfl (.tmp 27) (.tmp 28) rfl (v := .slice (some ⟨w.heap.size, 0, none⟩) 0 0) rfl hle.out rfl (Src.of_handed (HX.out.below ((Below.refl _ w).alloc (Nat.le_refl _) _))) (ints_one _ _) (by omega) (by unfold maxLen; omega) ?_; intro v1 w1 ho1 hg1 _; simp only [Nat.zero_add, List.nil_append] at ho1; obtain ⟨A1, k1, rfl, _, _⟩ := own_shape ho1)
  have hB1 : Below w.heap.size w w1 := ((Below.refl _ w).alloc (Nat.le_refl _) _).trans (hg1.chg.to_below (by simp) (by intro k hk; simp [Value.ownBlock] at hk; omega))
  obtain ⟨g1, cur1, rfl, _, _, hk1, hb1, _, _, hcc⟩ := own_pos ho1 (by omega)
  have hg1w : w.heap.size ≤ g1 := by
    rcases hg1.at_ with f | f
    · simp [Value.ownBlock] at f; omega
    · have := f g1 rfl; simp at this; omega
  have hHB1 := HB.of_own ho1 hxr.out (by omega)
  have hlt1 := blk_lt hb1
  have hc1 : w1.cell? ⟨g1, 0, none⟩ = some (.int .u8 (xs[0]?.getD 0)) := by
    rw [hcc 0 (by omega), ints_get _ _ _ (by omega)]
  have CL := (clone_any _ xs w1 hHB1).mono (R' := fun e w' => ∃ A' n' c', e = .returned (.slice A' n' c') ∧ (HB w' (.slice A' n' c') xs ∧ FreshV w1.heap.size (.slice A' n' c')) ∧ Below w1.heap.size w1 w') (by
    rintro e w' ⟨v', rfl, ho, hh, hB⟩
    have hf := FreshV.of_own ho
    obtain ⟨A', n', c', rfl⟩ := hh.shape
    exact ⟨_, _, _, rfl, ⟨hh, hf⟩, hB⟩)
  have hck1 : checkN 1 (⟨#[107]⟩ : ByteArray).size n = 0 := by
    show (if (1 : Int) < 1 ∨ 4 < 1 then (1 : Int) else if (1 : Int) ≠ 4 ∧ ((⟨#[107]⟩ : ByteArray).size < 1 ∨ 16 < (⟨#[107]⟩ : ByteArray).size) then 5 else if (1 : Int) = 1 ∧ 96 < n then 4 else 0) = 0
    rw [if_neg (by omega), if_neg (by decide), if_neg (by omega)]
  have NW := new_ok 0 1 ⟨#[107]⟩ (some ⟨g1, 0, none⟩) n k1 w1 (fun v w' => HB w' v xs ∧ FreshV w1.heap.size v) hck1 CL
  replace NW := Lib.hid NW
  have hfr1 := frozen_of_blk hb1 0
  have hb1' := Lib.hid hb1
  clear CL ho1 hg1 hHB1 hcc hk1 hck1 hb1
  go_wp2_with fail
  refine NW.out.mono ?_
  rintro e w3 ⟨w2, v2, rfl, rfl, ⟨hH2, hF2⟩, hB2⟩
  obtain ⟨b, hbq⟩ : ∃ b, w2.heap.size = b := ⟨_, rfl⟩
  obtain ⟨W3, hW3⟩ : ∃ W, w2.alloc (.cells (taskCells 0 1 ⟨#[107]⟩ v2 ⟨#[]⟩ 0 0 (.slice none 0 0) false 0) 90) = W := ⟨_, rfl⟩
  have hb3 : W3.heap[w2.heap.size]? = some (.cells (taskCells 0 1 ⟨#[107]⟩ v2 ⟨#[]⟩ 0 0 (.slice none 0 0) false 0) 90 (0, 0)) := by rw [← hW3]; exact heap_alloc_new w2 _
  have hB3 : Below w2.heap.size w2 W3 := by rw [← hW3]; exact (Below.refl _ _).alloc (Nat.le_refl _) _
  have hB13 := hB2.trans (hB3.mono hB2.size)
  have hH3 := hH2.below hB3
  have hg1b : g1 ≠ b := by have := hB2.size; omega
  have hc3 : W3.cell? ⟨g1, 0, none⟩ = some (.int .u8 (xs[0]?.getD 0)) := by rw [hB13.cell (p := ⟨g1, 0, none⟩) hlt1]; exact hc1
  have hf3 := frozen_of_blk (below_blk hB13 hb1'.out) 0
  rw [hW3]
  rw [hbq] at hb3 ⊢
  have hbw : w.heap.size ≤ b := by rw [← hbq]; exact Nat.le_trans hB1.size hB2.size
  have hBw3 := hB1.trans (hB13.mono hB1.size)
  unfold tptr
  have HB3 := Lib.hid hb3
  replace hH3 := Lib.hid hH3
  replace hF2 := Lib.hid hF2
  clear hW3 hH2 hB3 hB2 NW hc1 hfr1 hB13 hbq hb3
  generalize xs[0]?.getD 0 = x0 at *
  go_wp2_with fail
  obtain ⟨W4, hW4⟩ : ∃ W, W3.setCell ⟨g1, 0, none⟩ (.int .u8 ((x0 + 1) % 256)) = W := ⟨_, rfl⟩
  have hs4 : W3.heap.size = W4.heap.size := by rw [← hW4]; simp
  have hb4 : W4.heap[b]? = some (.cells (taskCells 0 1 ⟨#[107]⟩ v2 ⟨#[]⟩ 0 0 (.slice none 0 0) false 0) 90 (0, 0)) := by
    rw [← hW4]; exact blk_setCell_ne HB3.out (fun e => hg1b e.symm) _
  have hH4 : HB W4 v2 xs := by
    rw [← hW4]
    refine hH3.out.set_ne (fun k hk e => ?_) _
    have := hF2.out k hk
    have e' : k = g1 := e
    omega
  have hBw4 : Below w.heap.size w W4 := by rw [← hW4]; exact hBw3.setCell (show w.heap.size ≤ (⟨g1, 0, none⟩ : Addr).block from hg1w) _
  rw [hW4, hs4]
  have hT4 : IsTask W4 b (newT 0 1 ⟨#[107]⟩ xs) := ⟨v2, .slice none 0 0, hb4, hH4, HS.nil _ _⟩
  obtain ⟨W5, hW5⟩ : ∃ W, W4.alloc (.cells #[.int .i64 1, .int .i64 1] 3) = W := ⟨_, rfl⟩
  have hb5 : W5.heap[W4.heap.size]? = some (.cells #[.int .i64 1, .int .i64 1] 3 (0, 0)) := by rw [← hW5]; exact heap_alloc_new W4 _
  have hB5 : Below W4.heap.size W4 W5 := by rw [← hW5]; exact (Below.refl _ _).alloc (Nat.le_refl _) _
  rw [hW5]
  have hHC : HC W5 (.slice (some ⟨W4.heap.size, 0, none⟩) 2 2) [1, 1] := ⟨_, 2, rfl, by decide, by decide, fun _ => ⟨_, 0, rfl, fun i hi => by
    have : i < 2 := hi
    match i, this with
    | 0, _ => rw [cell_of_blk hb5]; rfl
    | 1, _ => rw [cell_of_blk hb5]; rfl⟩⟩
  have hBw5 := hBw4.trans (hB5.mono hBw4.size)
  refine (plan_any b (newT 0 1 ⟨#[107]⟩ xs) 2 0 1 1 _ [1, 1] W5 (hT4.below hB5) rfl hHC (by decide) (by decide) (by decide) (by decide) (by decide) (by show xs.length ≤ 96; omega) (HT.out.below hBw5)).mono ?_
  rintro e w6 (⟨-, rfl, hT6, hch6⟩ | ⟨hno, -, -⟩)
  case inr => exact absurd (.inr (by decide)) hno
  change IsTask w6 b (tO xs) at hT6
  have hBw6 : Below w.heap.size w w6 := hBw5.trans (hch6.to_below hBw5.size (by rintro k rfl; exact hbw))
  have hstr := strsO xs (by omega) (by omega)
  have hll : locsO.length = 2 := locsO_perm.length_eq
  have hsl : (tO xs).strs.length ≤ 100 := by rw [hstr]; decide
  have hsl2 : ∀ s ∈ (tO xs).strs, s.locs.length ≤ 1000 := by
    rw [hstr]; intro s hs; simp at hs; subst hs
    show locsO.length ≤ 1000
    omega
  have OB := object_any b (tO xs) w6 hT6 hsl hsl2
  unfold tptr at OB
  rw [hstr] at OB
  replace OB := Lib.hid OB
  replace hT6 := Lib.hid hT6
  replace hBw6 := Lib.hid hBw6
  replace hstr := Lib.hid hstr
  replace hll := Lib.hid hll
  replace hsl2 := Lib.hid hsl2
  clear hch6 hHC hb5 hB5 hBw5 hW5 hT4 hH4 hb4 hW4 hBw4 hH3 HB3 hc3 hf3 hF2 hBw3 hs4
  go_wp2_with fail
  refine OB.out.mono ?_
  rintro e w7 ⟨v7, rfl, hS7, hB7⟩
  obtain ⟨g7, c7, u7, rfl, hc71, hg7, m7, hu7, hf7⟩ := hS7.first
  change HI w7 u7 locsO at hu7
  obtain ⟨X7, x7, y7, rfl⟩ := hu7.shape
  obtain ⟨hx7, hxy7, hxc7⟩ := hu7.toC.cell
  rw [hll.out] at hx7
  subst hx7
  obtain ⟨lb, lo, rfl, ml⟩ := hxc7 0 (by decide)
  rw [Nat.add_zero] at ml
  have hfz := hu7.frozen (by rw [hll.out]; decide)
  have hlb := hf7 lb rfl
  clear hS7 hxc7 hf7 OB
  generalize (tO xs).okey = ky at *
  generalize (tO xs).oid = oi at *
  generalize (tO xs).osz = oz at *
  go_upto_region 9 with fail
  obtain ⟨W8, hW8⟩ : ∃ W, w7.alloc (.cells #[.string ky, .int .i64 oi, .int .i64 oz, .slice (some ⟨g7, 0, none⟩) 1 c7] 32) = W := ⟨_, rfl⟩
  have hb8 : W8.heap[w7.heap.size]? = some (.cells #[.string ky, .int .i64 oi, .int .i64 oz, .slice (some ⟨g7, 0, none⟩) 1 c7] 32 (0, 0)) := by rw [← hW8]; exact heap_alloc_new w7 _
  have hB8 : Below w7.heap.size w7 W8 := by rw [← hW8]; exact (Below.refl _ _).alloc (Nat.le_refl _) _
  rw [hW8]
  clear hW8
  have hB68 := hB7.trans (hB8.mono hB7.size)
  have hu8 := hu7.below hB8
  have n7 : W8.cell? ⟨g7, 2, none⟩ = some (.slice (some ⟨lb, lo, none⟩) 2 y7) := by rw [hB8.cell (cell_lt m7)]; exact m7
  have n8 : W8.cell? ⟨w7.heap.size, 3, none⟩ = some (.slice (some ⟨g7, 0, none⟩) 1 c7) := by rw [cell_of_blk hb8]; rfl
  have k7 : ∀ o, (W8.alloc o).cell? ⟨g7, 2, none⟩ = some (.slice (some ⟨lb, lo, none⟩) 2 y7) := fun o => by rw [((Below.refl _ W8).alloc (Nat.le_refl _) o).cell (cell_lt n7)]; exact n7
  have k8 : ∀ o, (W8.alloc o).cell? ⟨w7.heap.size, 3, none⟩ = some (.slice (some ⟨g7, 0, none⟩) 1 c7) := fun o => by rw [((Below.refl _ W8).alloc (Nat.le_refl _) o).cell (cell_lt n8)]; exact n8
  have hle8 := Lib.hid (own_zero (empty_own W8 3))
  have hlb8 : lb < W8.heap.size := cell_lt (show W8.cell? ⟨lb, lo, none⟩ = _ by rw [hB8.cell (cell_lt ml)]; exact ml)
  have ml8 : W8.cell? ⟨lb, lo, none⟩ = some (.int .i64 (locsO[0]?.getD 0)) := by rw [hB8.cell (cell_lt ml)]; exact ml
  have hfz8 : W8.frozen? ⟨lb, lo, none⟩ = false := hu8.frozen (by rw [hll.out]; decide) lo
  obtain ⟨q8, hq8⟩ : ∃ q, w7.heap.size = q := ⟨_, rfl⟩
  rw [hq8] at n8 k8 ⊢
  have hu8' := Lib.hid hu8
  have hlz := Lib.hid ml8
  clear hu7 hu8 hb8 hq8 ml m7 hB8 hfz
  go_wp2_with (at_builtin; refine app_arm Tryz.EI _ rfl (.tmp 56) (.tmp 61) rfl (v := .slice (some ⟨W8.heap.size, 0, none⟩) 0 0) rfl hle8.out rfl (Src.of_HI (hu8'.out.below ((Below.refl _ W8).alloc (Nat.le_refl _) _))) (ints_one _ _) (by omega) (by unfold maxLen; omega) ?_; intro v10 w10 ho10 hg10 _; simp only [Nat.zero_add, List.nil_append] at ho10; have hB10 : Below W8.heap.size W8 w10 := (((Below.refl _ W8).alloc (Nat.le_refl _) _).trans (hg10.chg.to_below (by simp) (by intro k hk; simp [Value.ownBlock] at hk; omega))); have p7 : w10.cell? ⟨g7, 2, none⟩ = some (.slice (some ⟨lb, lo, none⟩) 2 y7) := (by rw [hB10.cell (cell_lt n7)]; exact n7); have p8 : w10.cell? ⟨q8, 3, none⟩ = some (.slice (some ⟨g7, 0, none⟩) 1 c7) := (by rw [hB10.cell (cell_lt n8)]; exact n8); have pl : w10.cell? ⟨lb, lo, none⟩ = some (.int .i64 (locsO[0]?.getD 0)) := (by rw [hB10.cell (p := ⟨lb, lo, none⟩) hlb8]; exact hlz.out); have fl : w10.frozen? ⟨lb, lo, none⟩ = false := (hu8'.out.below hB10).frozen (by rw [hll.out]; decide) lo; obtain ⟨A10, k10, rfl, _, _⟩ := own_shape ho10)
  have hl10 := HI.of_own ho10
  obtain ⟨g10, -, rfl, -⟩ := own_pos ho10 (by omega)
  have hg10b : W8.heap.size ≤ g10 := by
    rcases hg10.at_ with f | f
    · simp [Value.ownBlock] at f; omega
    · have := f g10 rfl; simp at this; omega
  obtain ⟨W11, hW11⟩ : ∃ W, w10.setCell ⟨lb, lo, none⟩ (.int .i64 9) = W := ⟨_, rfl⟩
  have hl11 : HI W11 (.slice (some ⟨g10, 0, none⟩) 2 k10) locsO := by
    rw [← hW11]
    refine hl10.set_ne (fun k hk e => ?_) _
    simp [blkOf] at hk
    have e' : k = lb := e
    omega
  have hB611 : Below w6.heap.size w6 W11 := by
    rw [← hW11]
    exact (hB68.trans (hB10.mono hB68.size)).setCell (show w6.heap.size ≤ (⟨lb, lo, none⟩ : Addr).block from hlb) _
  rw [hW11]
  have hT11 := Lib.hid (hT6.out.below hB611)
  have hBw11 := hBw6.out.trans (hB611.mono hBw6.out.size)
  replace hl11 := Lib.hid hl11
  clear hW11 hl10 ho10 hg10 fl pl p7 p8 n7 n8 k7 k8 hle8 hlz hu8' hfz8 ml8
  refine (pnew_any W11).mono ?_
  rintro e w12 ⟨rfl, hP12, hB12⟩
  obtain ⟨p, hp⟩ : ∃ p, W11.heap.size = p := ⟨_, rfl⟩
  rw [hp] at hP12 ⊢
  have hpw : w.heap.size ≤ p := by rw [← hp]; exact hBw11.size
  unfold pptr
  have S12 : SF w w12 b p (tO xs) ⟨.slice none 0 0, []⟩ ⟨[], -1, false⟩ := ⟨hBw11.trans (hB12.mono hBw11.size), hT11.out.below hB12, hP12, hbw, by
    rintro k (rfl | hk | ⟨x, hx, _⟩)
    · exact hpw
    · simp [Value.ownBlock] at hk
    · simp at hx⟩
  have hl12 := Lib.hid (hl11.out.below hB12)
  replace S12 := Lib.hid S12
  clear hP12 hp hB12 hT11 hl11
  go_wp2_with fail
  refine (padd_any p _ ⟨[], -1, false⟩ 4 w12 S12.out.pool).mono ?_
  rintro e w13 ⟨L13, rfl, hP13, hs13⟩
  change IsPool w13 p L13 ⟨[newD 4], -1, false⟩ at hP13
  obtain ⟨S13, hk13⟩ := S12.out.pstep hP13 hs13
  have hl13 := Lib.hid (hk13 _ _ hl12.out)
  replace S13 := Lib.hid S13
  clear hP13 hs13 hk13 S12 hl12
  go_wp2_with fail
  refine (padd_any p _ ⟨[newD 4], -1, false⟩ 4 w13 S13.out.pool).mono ?_
  rintro e w14 ⟨L14, rfl, hP14, hs14⟩
  change IsPool w14 p L14 ⟨[newD 4, newD 4], -1, false⟩ at hP14
  obtain ⟨S14, hk14⟩ := S13.out.pstep hP14 hs14
  have hl14 := Lib.hid (hk14 _ _ hl13.out)
  clear hP14 hs14 hk14 S13 hl13
  have hlen8 := shardL_len 2 0 xs 0 0 (by decide)
  have hmem : locsO[0]?.getD 0 = 0 ∨ locsO[0]?.getD 0 = 1 := by
    have h1 : 0 < locsO.length := by rw [hll.out]; decide
    rw [List.getElem?_eq_getElem h1]
    have := locsO_perm.mem_iff.1 (List.getElem_mem h1)
    simpa using this
  obtain ⟨m15, st15, ld15⟩ := own_store _ hmem (shardL 2 0 xs 0 0) (by rw [hlen8]; decide)
  have RD := ready_planned (newT 0 1 kKey xs) [1, 1] 2 0 1 1 rfl (by show xs.length ≤ 96; omega) (by decide) (by decide) (.inr (by decide))
  have NX := next_store b p (tO xs) L14 ⟨[newD 4, newD 4], -1, false⟩ 2 0 0 w14 S14.task S14.pool (by intro d hd; simp at hd; subst hd; decide) (by decide) (by decide) (by decide) RD rfl (by rw [hstr.out]; decide)
  rw [stepO xs (by omega) (by omega), st15] at NX
  unfold tptr pptr at NX
  replace NX := Lib.hid NX
  have hx8 := Lib.hid (shard_own xs (by omega) (by omega) hxr.out)
  have hlen8' := Lib.hid hlen8
  clear RD hmem hlen8
  replace S14 := Lib.hid S14
  go_wp2_with fail
  refine NX.out.mono ?_
  rintro e w15 ⟨L15, rfl, hP15, hT15, hch15, hf15⟩
  obtain ⟨S15, hk15⟩ := S14.out.next hP15 hT15 hch15 hf15
  rw [if_pos trivial] at S15
  have hl15 := hk15 _ _ hl14.out
  have LD := pload_any p L15 m15 (locsO[0]?.getD 0) 16 0 w15 S15.pool
  rw [ld15] at LD
  unfold pptr at LD
  replace LD := Lib.hid LD
  obtain ⟨-, -, hlc⟩ := hl15.toC.cell
  obtain ⟨lb2, lo2, le2, ml15⟩ := hlc 0 (by decide)
  cases le2
  rw [Nat.add_zero] at ml15
  replace S15 := Lib.hid S15
  replace hl15 := Lib.hid hl15
  clear hP15 hT15 hch15 hf15 hk15 hlc NX S14 hl14
  generalize locsO[0]?.getD 0 = y0 at *
  go_wp2_with fail
  refine LD.out.mono ?_
  rintro e w16 ⟨v16, rfl, hH16, hB16⟩
  have S16 := S15.out.grow hB16
  have hl16 := Lib.hid (hl15.out.below hB16)
  obtain ⟨A16, n16, c16, rfl⟩ := hH16.shape
  replace hH16 := Lib.hid hH16
  replace S16 := Lib.hid S16
  clear S15 hl15 ml15 LD hB16
  have hle16 := Lib.hid (own_zero (empty_own w16 5))
  have hX16 := Lib.hid (HX.out.below S16.out.below)
  go_wp2_with (at_builtin; first
    | (refine app_arm Tryz.E8 _ rfl (.tmp 85) (.tmp 86) rfl (v := .slice (some ⟨w16.heap.size, 0, none⟩) 0 0) rfl hle16.out rfl (Src.of_handed (hX16.out.below ((Below.refl _ w16).alloc (Nat.le_refl _) _))) (ints_one _ _) (by omega) (by unfold maxLen; omega) ?_; intro v17 w17 ho17 hg17 _; simp only [Nat.zero_add, List.nil_append] at ho17; obtain ⟨A17, k17, rfl, hk17, _⟩ := own_shape ho17; obtain ⟨g17, -, rfl, -⟩ := own_pos ho17 (by omega); have hB17 : Below w16.heap.size w16 w17 := (((Below.refl _ w16).alloc (Nat.le_refl _) _).trans (hg17.chg.to_below (by simp) (by intro k hk; simp [Value.ownBlock] at hk; omega))))
    | (obtain ⟨v19, w19, hr19, ho19, hg19⟩ := zeros_run w17 g17 n k17 8 xs 22 (by decide) ho17 (by omega); refine Lib.wpList_append_run _ rfl (.tmp 87) (.const (.int .i64 8)) _ _ rfl _ _ rfl rfl _ _ hr19 ?_; obtain ⟨A19, k19, rfl, hk19, _⟩ := own_shape ho19; obtain ⟨g19, -, rfl, -⟩ := own_pos ho19 (by omega); have hk8 : 8 ≤ k19 := (by omega)))
  have hg17b : w16.heap.size ≤ g17 := by
    rcases hg17.at_ with f | f
    · simp [Value.ownBlock] at f; omega
    · have := f g17 rfl; simp at this; omega
  have hB19 : Below w16.heap.size w16 w19 := hB17.trans (hg19.chg.to_below hB17.size (by intro k hk; simp [Value.ownBlock] at hk; omega))
  have hr19' : ∀ x ∈ xs ++ List.replicate 8 (0 : Int), 0 ≤ x ∧ x ≤ 255 := by
    intro x hx
    rcases List.mem_append.1 hx with h | h
    · exact hxr.out x h
    · rw [List.eq_of_mem_replicate h]; omega
  have hW19 := (HB.of_own ho19 hr19' (by simp; omega)).sub 0 8 k19 (by omega) (by omega) (by omega) (by omega) (A' := some ⟨g19, 0, none⟩) (fun _ b o e => by cases e; rfl)
  change HB w19 (.slice (some ⟨g19, 0, none⟩) 8 k19) ((xs ++ List.replicate 8 0).take 8) at hW19
  have hH19 := hH16.out.below hB19
  rw [hx8.out] at hH19
  have S19 := S16.out.grow hB19
  have hl19 := hl16.out.below hB19
  have AN := answers_any w19 (HT.out.below S19.below)
  replace AN := Lib.hid AN
  replace hW19 := Lib.hid hW19
  replace hH19 := Lib.hid hH19
  replace S19 := Lib.hid S19
  replace hl19 := Lib.hid hl19
  clear hr19' ho19 hg19 hr19 ho17 hg17 hB17 hB19 hg17b hle16 hX16 S16 hl16 hH16
  refine AN.out.mono ?_
  rintro e w20 ⟨rfl, hB20⟩
  have SM := bytes_same _ _ _ w20 (hH19.out.below hB20).toC (hW19.out.below hB20).toC
  replace SM := Lib.hid SM
  have S20 := Lib.hid (S19.out.grow hB20)
  have hl20 := Lib.hid (hl19.out.below hB20)
  clear AN S19 hl19 hH19 hW19 hB20
  go_wp2_with fail
  refine SM.out.mono ?_
  rintro e w21 ⟨rfl, q21, rfl⟩
  have hB21 : Below w20.heap.size w20 (w20.drewN q21) := below_drewN' (Below.refl _ _) q21
  have S21 := S20.out.grow hB21
  have hl21 := Lib.hid (hl20.out.below hB21)
  have OB := S21.object (by show (tO xs).strs.length ≤ 100; exact hsl) (by show ∀ s ∈ (tO xs).strs, _; exact hsl2.out)
  change Calls Tryz.prog 17 #[tptr b] (w20.drewN q21) (fun e w' => ∃ v', e = .returned (.agg #[.string (tO xs).okey, .int .i64 (tO xs).oid, .int .i64 (tO xs).osz, v']) ∧ HS w' (w20.drewN q21).heap.size v' (tO xs).strs ∧ Below (w20.drewN q21).heap.size (w20.drewN q21) w' ∧ _) at OB
  rw [hstr.out] at OB
  unfold tptr at OB
  replace OB := Lib.hid OB
  have r3 := run_obj3
  clear S20 hl20 SM S21
  go_wp2_with fail
  refine OB.out.mono ?_
  rintro e w22 ⟨v22, rfl, hS22, hB22, S22⟩
  obtain ⟨g22, c22, u22, rfl, hc22, -, m22, hu22, -⟩ := hS22.first
  change HI w22 u22 locsO at hu22
  have hl22 := hl21.out.below hB22
  obtain ⟨X22, x22, y22, rfl⟩ := hu22.shape
  have IN := ints_same _ _ locsO w22 hu22.toC hl22.toC
  replace IN := Lib.hid IN
  replace S22 := Lib.hid S22
  clear hS22 hu22 hl22 hl21 OB
  go_wp2_with fail
  refine IN.out.mono ?_
  rintro e w23 ⟨rfl, q23, rfl⟩
  go_wp2
  go_ret
  exact ⟨rfl, below_drewN' S22.out.below q23⟩
end Go.Proofs.YtblddkjdglliaaaGreatDoor
