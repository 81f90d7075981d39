/- Contracts: cmp.Compare at uint64, cmp.Or at two ints, rank.nearer. -/
import Derived.Test.YtblddkjdglliaaaGreatDoorHash
import Derived.Test.YtblddkjdglliaaaGreatDoorShelf
import Derived.Deep.RegionLaw
import Derived.Sort.Grow
namespace Go.Proofs.YtblddkjdglliaaaGreatDoor
open Go.RowKit Go.Sort

set_option maxHeartbeats 400000 in
theorem compareU_any (x y : Int) (w : World) :
    Calls Tryz.prog 160 #[.int .u64 x, .int .u64 y] w fun e w' => e = .returned (.int .i64 (Lib.compareInt x y)) ∧ w = w' := by
  by_cases h1 : x < y
  · have : Lib.compareInt x y = -1 := by simp [Lib.compareInt, h1]
    rw [this]
    clear this
    go_enter Tryz.func160, Tryz.ntmps160
    go_wp2
    go_ret
    exact ⟨rfl, rfl⟩
  · by_cases h2 : x > y
    · have : Lib.compareInt x y = 1 := by simp [Lib.compareInt]; omega
      rw [this]
      clear this
      go_enter Tryz.func160, Tryz.ntmps160
      go_wp2
      go_ret
      exact ⟨rfl, rfl⟩
    · have : Lib.compareInt x y = 0 := by simp [Lib.compareInt]; omega
      rw [this]
      clear this
      go_enter Tryz.func160, Tryz.ntmps160
      go_wp2
      go_ret
      exact ⟨rfl, rfl⟩
def or2 (x y : Int) : Int := if x ≠ 0 then x else y
set_option maxHeartbeats 400000 in
theorem or2_any (g : Nat) (x y : Int) (w : World) (h0 : w.cell? ⟨g, 0, none⟩ = some (.int .i64 x)) (h1 : w.cell? ⟨g, 1, none⟩ = some (.int .i64 y)) :
    Calls Tryz.prog 159 #[.slice (some ⟨g, 0, none⟩) 2 2] w fun e w' => e = .returned (.int .i64 (or2 x y)) ∧ w = w' := by
  unfold or2
  by_cases hx : x = 0
  · subst hx
    by_cases hy : y = 0
    · subst hy
      rw [if_neg (by simp)]
      go_enter Tryz.func159, Tryz.ntmps159
      go_wp2
      refine wp_loop_rounds 3 ?_
      rw [rounds_succ]
      go_wp2
      rw [rounds_succ]
      go_wp2
      rw [rounds_succ]
      go_wp2
      go_ret
      exact ⟨rfl, rfl⟩
    · rw [if_neg (by simp)]
      go_enter Tryz.func159, Tryz.ntmps159
      go_wp2
      refine wp_loop_rounds 3 ?_
      rw [rounds_succ]
      go_wp2
      rw [rounds_succ]
      go_wp2
      go_ret
      exact ⟨rfl, rfl⟩
  · rw [if_pos hx]
    go_enter Tryz.func159, Tryz.ntmps159
    go_wp2
    refine wp_loop_rounds 3 ?_
    rw [rounds_succ]
    go_wp2
    go_ret
    exact ⟨rfl, rfl⟩

/-- Which of two drives comes first: the heavier one, then the lesser number. -/
def nearC (a b : Int × Int) : Int := or2 (Lib.compareInt b.2 a.2) (Lib.compareInt a.1 b.1)
set_option maxRecDepth 100000 in
set_option maxHeartbeats 1000000 in
theorem nearer_any (d1 w1 d2 w2 : Int) (w : World) :
    Calls Tryz.prog 127 #[.agg #[.int .i64 d1, .int .u64 w1], .agg #[.int .i64 d2, .int .u64 w2]] w fun e w' => e = .returned (.int .i64 (nearC (d1, w1) (d2, w2))) ∧ ∃ q os', w' = grow (w.drewN q) os' := by
  unfold nearC
  have C1 := Lib.hid fun W => compareU_any w2 w1 W
  have C2 : Hid (∀ W, Calls Tryz.prog 74 #[.int .i64 d1, .int .i64 d2] W fun e w' => e = .returned (.int .i64 (Lib.compareInt d1 d2)) ∧ W = w') := Lib.hid fun W => (Tryz.cmp_Compare_int d1 d2 W).mono fun _ _ h => ⟨h.1, h.2.symm⟩
  generalize Lib.compareInt w2 w1 = x at *
  generalize Lib.compareInt d1 d2 = y at *
  have OR := Lib.hid fun g W h0 h1 => or2_any g x y W h0 h1
  generalize or2 x y = r at *
  go_enter Tryz.func127, Tryz.ntmps127
  go_wp2
  have hb1 : ∀ W, (w.alloc (.cells #[.int .i64 d1, .int .u64 w1] 172)).alloc (.cells #[.int .i64 d2, .int .u64 w2] 172) = W → W.heap[w.heap.size]? = some (.cells #[.int .i64 d1, .int .u64 w1] 172 (0, 0)) ∧ W.heap[w.heap.size + 1]? = some (.cells #[.int .i64 d2, .int .u64 w2] 172 (0, 0)) := by
    rintro W rfl
    exact ⟨blk_alloc (heap_alloc_new w _) _, heap_alloc2_new w _ _⟩
  obtain ⟨W1, hW1⟩ : ∃ W, (w.alloc (.cells #[.int .i64 d1, .int .u64 w1] 172)).alloc (.cells #[.int .i64 d2, .int .u64 w2] 172) = W := ⟨_, rfl⟩
  obtain ⟨hb1, hb2⟩ := hb1 W1 hW1
  rw [hW1]
  have c0 : W1.cell? ⟨w.heap.size, 0, none⟩ = some (.int .i64 d1) := by rw [cell_of_blk hb1]; rfl
  have c1 : W1.cell? ⟨w.heap.size, 1, none⟩ = some (.int .u64 w1) := by rw [cell_of_blk hb1]; rfl
  have c2 : W1.cell? ⟨w.heap.size + 1, 0, none⟩ = some (.int .i64 d2) := by rw [cell_of_blk hb2]; rfl
  have c3 : W1.cell? ⟨w.heap.size + 1, 1, none⟩ = some (.int .u64 w2) := by rw [cell_of_blk hb2]; rfl
  have l1 := blk_lt hb1
  have l2 := blk_lt hb2
  have HW := Lib.hid hW1
  clear hW1 hb1 hb2
  obtain ⟨q1, hq1⟩ : ∃ q, w.heap.size = q := ⟨_, rfl⟩
  rw [hq1] at c0 c1 c2 c3 l1 l2 ⊢
  clear hq1
  go_region_law (go_simp; first
    | (go_at_call 160; refine (C1.out _).mono ?_; rintro e w' ⟨rfl, rfl⟩)
    | (go_at_call 74; refine (C2.out _).mono ?_; rintro e w' ⟨rfl, rfl⟩)
    | (go_at_call 159; refine (OR.out _ _ (cell_of_blk (heap_alloc_new _ _) 0) (cell_of_blk (heap_alloc_new _ _) 1)).mono ?_; rintro e w' ⟨rfl, rfl⟩))
  all_goals go_wp2
  all_goals go_ret
  all_goals
    refine ⟨rfl, 1, #[.cells #[.int .i64 d1, .int .u64 w1] 172, .cells #[.int .i64 d2, .int .u64 w2] 172, .cells #[.int .i64 x, .int .i64 y] 3], ?_⟩
    rw [← HW.out]
    rfl
end Go.Proofs.YtblddkjdglliaaaGreatDoor
