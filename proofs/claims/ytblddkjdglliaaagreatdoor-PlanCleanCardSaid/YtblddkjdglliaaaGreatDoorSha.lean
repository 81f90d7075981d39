/- Contracts: hash.right, hash.round. -/
import Derived.Test.YtblddkjdglliaaaGreatDoorHash
import Derived.Deep.RegionLaw
namespace Go.Proofs.YtblddkjdglliaaaGreatDoor
open Go.RowKit

theorem quiet_add {P : Program} {f : FuncId} {args : Array Value} {w : World} {a n : Nat} {v : Value}
    (h : Calls P f args (w.drewN (a + n)) fun e w' => e = .returned v ∧ ∃ m, w' = (w.drewN (a + n)).drewN m) :
    Calls P f args (w.drewN (a + n)) fun e w'' => e = .returned v ∧ ∃ m, w'' = w.drewN (a + m) :=
  h.mono fun _ _ ⟨he, m, hm⟩ => ⟨he, n + m, by rw [hm, World.drewN_drewN, Nat.add_assoc]⟩
theorem quiet_one {P : Program} {f : FuncId} {args : Array Value} {w : World} {n : Nat} {v : Value}
    (h : Calls P f args (w.drewN n) fun e w' => e = .returned v ∧ ∃ m, w' = (w.drewN n).drewN m) :
    Calls P f args (w.drewN n) fun e w'' => e = .returned v ∧ ∃ m, w'' = w.drewN m :=
  h.mono fun _ _ ⟨he, m, hm⟩ => ⟨he, n + m, by rw [hm, World.drewN_drewN]⟩
theorem bits_u32 (o : BinOp) (x y : Int) : 0 ≤ bits o .u32 x y ∧ bits o .u32 x y ≤ 4294967295 := by
  unfold bits
  dsimp only
  generalize BitVec.toNat _ = n
  rw [IntKind.wrap_u32]; omega
/-- v turned to the right by n. -/
def rotN (v : Int) (n : Nat) : Int := bits BinOp.or IntKind.u32 (v / 2 ^ n) (IntKind.u32.wrap (v * 2 ^ min (32 - n) 32))
theorem rotN_range (v : Int) (n : Nat) : 0 ≤ rotN v n ∧ rotN v n ≤ 4294967295 := bits_u32 _ _ _
set_option maxRecDepth 100000 in
set_option maxHeartbeats 400000 in
theorem right_any (v : Int) (n : Nat) (w : World) (_h0 : 0 ≤ v ∧ v ≤ 4294967295) (hn : 1 ≤ n ∧ n ≤ 31) :
    Calls Tryz.prog 229 #[.int .u32 v, .int .i64 n] w fun e w' => e = .returned (.int .u32 (rotN v n)) ∧ ∃ m, w' = w.drewN m := by
  unfold rotN
  have hq : IntKind.i64.wrap (32 - (n : Int)) = ((32 - n : Nat) : Int) := by rw [show (32 - (n : Int)) = ((32 - n : Nat) : Int) by omega]; exact IntWalk.i64_in _ (by omega)
  generalize 32 - n = k at *
  go_enter Tryz.func229, Tryz.ntmps229
  go_wp2
  go_quiet (fail)
  go_wp2
  go_ret
  exact ⟨rfl, nq, rfl⟩

def upN (s4 s5 s6 s7 n : Int) : Int := IntKind.u32.wrap (IntKind.u32.wrap (IntKind.u32.wrap (s7 + n) + bits BinOp.xor IntKind.u32 (bits BinOp.xor IntKind.u32 (rotN s4 6) (rotN s4 11)) (rotN s4 25)) + bits BinOp.xor IntKind.u32 (bits BinOp.and IntKind.u32 s4 (bits BinOp.xor IntKind.u32 s5 s6)) s6)
def onN (s0 s1 s2 : Int) : Int := IntKind.u32.wrap (bits BinOp.xor IntKind.u32 (bits BinOp.xor IntKind.u32 (rotN s0 2) (rotN s0 13)) (rotN s0 22) + bits BinOp.or IntKind.u32 (bits BinOp.and IntKind.u32 s0 s1) (bits BinOp.and IntKind.u32 s2 (bits BinOp.or IntKind.u32 s0 s1)))
theorem heap_alloc2_old (w : World) (s0 s1 s2 s3 s4 s5 s6 s7 : Int) : ∀ W, ((w.alloc (.cells #[.int .u32 s0, .int .u32 s1, .int .u32 s2, .int .u32 s3, .int .u32 s4, .int .u32 s5, .int .u32 s6, .int .u32 s7] 225)).alloc (.cells #[.int .u32 0, .int .u32 0, .int .u32 0, .int .u32 0, .int .u32 0, .int .u32 0, .int .u32 0, .int .u32 0] 225)) = W →
    W.heap[w.heap.size]? = some (.cells #[.int .u32 s0, .int .u32 s1, .int .u32 s2, .int .u32 s3, .int .u32 s4, .int .u32 s5, .int .u32 s6, .int .u32 s7] 225 (0, 0)) ∧ W.heap[w.heap.size + 1]? = some (.cells #[.int .u32 0, .int .u32 0, .int .u32 0, .int .u32 0, .int .u32 0, .int .u32 0, .int .u32 0, .int .u32 0] 225 (0, 0)) ∧ Below w.heap.size w W := by
  rintro W rfl
  exact ⟨blk_alloc (heap_alloc_new w _) _, heap_alloc2_new w _ _, ((Below.refl _ w).alloc (Nat.le_refl _) _).alloc (by simp) _⟩
set_option maxRecDepth 100000 in
set_option maxHeartbeats 1000000 in
theorem round_any (s0 s1 s2 s3 s4 s5 s6 s7 n : Int) (w : World) (h0 : 0 ≤ s0 ∧ s0 ≤ 4294967295)
    (h4 : 0 ≤ s4 ∧ s4 ≤ 4294967295) :
    Calls Tryz.prog 212 #[.agg #[.int .u32 s0, .int .u32 s1, .int .u32 s2, .int .u32 s3, .int .u32 s4, .int .u32 s5, .int .u32 s6, .int .u32 s7], .int .u32 n] w fun e w' => e = .returned (.agg #[.int .u32 ((upN s4 s5 s6 s7 n + onN s0 s1 s2) % 4294967296), .int .u32 s0, .int .u32 s1, .int .u32 s2, .int .u32 ((s3 + upN s4 s5 s6 s7 n) % 4294967296), .int .u32 s4, .int .u32 s5, .int .u32 s6]) ∧ Below w.heap.size w w' := by
  have R2 : Hid (∀ (v : Int) (W : World), 0 ≤ v ∧ v ≤ 4294967295 → Calls Tryz.prog 229 #[.int .u32 v, .int .i64 2] W fun e w' => e = .returned (.int .u32 (rotN v 2)) ∧ ∃ m, w' = W.drewN m) := Lib.hid fun v W h => right_any v 2 W h (by omega)
  have R6 : Hid (∀ (v : Int) (W : World), 0 ≤ v ∧ v ≤ 4294967295 → Calls Tryz.prog 229 #[.int .u32 v, .int .i64 6] W fun e w' => e = .returned (.int .u32 (rotN v 6)) ∧ ∃ m, w' = W.drewN m) := Lib.hid fun v W h => right_any v 6 W h (by omega)
  have R11 : Hid (∀ (v : Int) (W : World), 0 ≤ v ∧ v ≤ 4294967295 → Calls Tryz.prog 229 #[.int .u32 v, .int .i64 11] W fun e w' => e = .returned (.int .u32 (rotN v 11)) ∧ ∃ m, w' = W.drewN m) := Lib.hid fun v W h => right_any v 11 W h (by omega)
  have R13 : Hid (∀ (v : Int) (W : World), 0 ≤ v ∧ v ≤ 4294967295 → Calls Tryz.prog 229 #[.int .u32 v, .int .i64 13] W fun e w' => e = .returned (.int .u32 (rotN v 13)) ∧ ∃ m, w' = W.drewN m) := Lib.hid fun v W h => right_any v 13 W h (by omega)
  have R22 : Hid (∀ (v : Int) (W : World), 0 ≤ v ∧ v ≤ 4294967295 → Calls Tryz.prog 229 #[.int .u32 v, .int .i64 22] W fun e w' => e = .returned (.int .u32 (rotN v 22)) ∧ ∃ m, w' = W.drewN m) := Lib.hid fun v W h => right_any v 22 W h (by omega)
  have R25 : Hid (∀ (v : Int) (W : World), 0 ≤ v ∧ v ≤ 4294967295 → Calls Tryz.prog 229 #[.int .u32 v, .int .i64 25] W fun e w' => e = .returned (.int .u32 (rotN v 25)) ∧ ∃ m, w' = W.drewN m) := Lib.hid fun v W h => right_any v 25 W h (by omega)
  go_enter Tryz.func212, Tryz.ntmps212
  go_wp2
  have hb1 := heap_alloc2_old w s0 s1 s2 s3 s4 s5 s6 s7
  obtain ⟨W1, hW1⟩ : ∃ W, ((w.alloc (.cells #[.int .u32 s0, .int .u32 s1, .int .u32 s2, .int .u32 s3, .int .u32 s4, .int .u32 s5, .int .u32 s6, .int .u32 s7] 225)).alloc (.cells #[.int .u32 0, .int .u32 0, .int .u32 0, .int .u32 0, .int .u32 0, .int .u32 0, .int .u32 0, .int .u32 0] 225)) = W := ⟨_, rfl⟩
  rw [hW1]
  obtain ⟨hb1, hb2, hB⟩ := hb1 W1 hW1
  have c0 : W1.cell? ⟨w.heap.size, 0, none⟩ = some (.int .u32 s0) := by rw [cell_of_blk hb1]; rfl
  have c1 : W1.cell? ⟨w.heap.size, 1, none⟩ = some (.int .u32 s1) := by rw [cell_of_blk hb1]; rfl
  have c2 : W1.cell? ⟨w.heap.size, 2, none⟩ = some (.int .u32 s2) := by rw [cell_of_blk hb1]; rfl
  have c3 : W1.cell? ⟨w.heap.size, 3, none⟩ = some (.int .u32 s3) := by rw [cell_of_blk hb1]; rfl
  have c4 : W1.cell? ⟨w.heap.size, 4, none⟩ = some (.int .u32 s4) := by rw [cell_of_blk hb1]; rfl
  have c5 : W1.cell? ⟨w.heap.size, 5, none⟩ = some (.int .u32 s5) := by rw [cell_of_blk hb1]; rfl
  have c6 : W1.cell? ⟨w.heap.size, 6, none⟩ = some (.int .u32 s6) := by rw [cell_of_blk hb1]; rfl
  have c7 : W1.cell? ⟨w.heap.size, 7, none⟩ = some (.int .u32 s7) := by rw [cell_of_blk hb1]; rfl
  have HB0 := Lib.hid hB
  have HB2 := Lib.hid hb2
  clear hW1 hb1 hb2 hB
  generalize hq : w.heap.size = q at *
  have HQ := Lib.hid hq
  clear hq
  go_quiet (fail)
  go_wp2
  go_quiet ((go_at_call 229; first | with_reducible exact quiet_add (R6.out _ _ h4) | with_reducible exact quiet_add (R11.out _ _ h4) | with_reducible exact quiet_add (R25.out _ _ h4)))
  go_wp2
  go_quiet ((go_at_call 229; first | with_reducible exact quiet_add (R2.out _ _ h0) | with_reducible exact quiet_add (R13.out _ _ h0) | with_reducible exact quiet_add (R22.out _ _ h0)))
  have hb2 := HB2.out
  have d0 : W1.cell? ⟨q + 1, 0, none⟩ = some (.int .u32 0) := by rw [cell_of_blk hb2]; rfl
  have f0 := frozen_of_blk hb2 0
  have d1 : W1.cell? ⟨q + 1, 1, none⟩ = some (.int .u32 0) := by rw [cell_of_blk hb2]; rfl
  have f1 := frozen_of_blk hb2 1
  have d2 : W1.cell? ⟨q + 1, 2, none⟩ = some (.int .u32 0) := by rw [cell_of_blk hb2]; rfl
  have f2 := frozen_of_blk hb2 2
  have d3 : W1.cell? ⟨q + 1, 3, none⟩ = some (.int .u32 0) := by rw [cell_of_blk hb2]; rfl
  have f3 := frozen_of_blk hb2 3
  have d4 : W1.cell? ⟨q + 1, 4, none⟩ = some (.int .u32 0) := by rw [cell_of_blk hb2]; rfl
  have f4 := frozen_of_blk hb2 4
  have d5 : W1.cell? ⟨q + 1, 5, none⟩ = some (.int .u32 0) := by rw [cell_of_blk hb2]; rfl
  have f5 := frozen_of_blk hb2 5
  have d6 : W1.cell? ⟨q + 1, 6, none⟩ = some (.int .u32 0) := by rw [cell_of_blk hb2]; rfl
  have f6 := frozen_of_blk hb2 6
  have d7 : W1.cell? ⟨q + 1, 7, none⟩ = some (.int .u32 0) := by rw [cell_of_blk hb2]; rfl
  have f7 := frozen_of_blk hb2 7
  clear hb2
  generalize hup : IntKind.u32.wrap (IntKind.u32.wrap (IntKind.u32.wrap (s7 + n) + bits BinOp.xor IntKind.u32 (bits BinOp.xor IntKind.u32 (rotN s4 6) (rotN s4 11)) (rotN s4 25)) + bits BinOp.xor IntKind.u32 (bits BinOp.and IntKind.u32 s4 (bits BinOp.xor IntKind.u32 s5 s6)) s6) = up
  generalize hon : IntKind.u32.wrap (bits BinOp.xor IntKind.u32 (bits BinOp.xor IntKind.u32 (rotN s0 2) (rotN s0 13)) (rotN s0 22) + bits BinOp.or IntKind.u32 (bits BinOp.and IntKind.u32 s0 s1) (bits BinOp.and IntKind.u32 s2 (bits BinOp.or IntKind.u32 s0 s1))) = on
  have hur : 0 ≤ up ∧ up ≤ 4294967295 := by rw [← hup, IntKind.wrap_u32]; omega
  have hor : 0 ≤ on ∧ on ≤ 4294967295 := by rw [← hon, IntKind.wrap_u32]; omega
  have HUP := Lib.hid hup
  have HON := Lib.hid hon
  clear hup hon
  go_wp2
  have hfin : ∀ (W : World) (v0 v1 v2 v3 v4 v5 v6 v7 : Int), W.heap[q + 1]? = some (.cells #[.int .u32 0, .int .u32 0, .int .u32 0, .int .u32 0, .int .u32 0, .int .u32 0, .int .u32 0, .int .u32 0] 225 (0, 0)) →
      ((((((((W.setCell ⟨q + 1, 0, none⟩ (.int .u32 v0)).setCell ⟨q + 1, 1, none⟩ (.int .u32 v1)).setCell ⟨q + 1, 2, none⟩ (.int .u32 v2)).setCell ⟨q + 1, 3, none⟩ (.int .u32 v3)).setCell ⟨q + 1, 4, none⟩ (.int .u32 v4)).setCell ⟨q + 1, 5, none⟩ (.int .u32 v5)).setCell ⟨q + 1, 6, none⟩ (.int .u32 v6)).setCell ⟨q + 1, 7, none⟩ (.int .u32 v7)).heap[q + 1]? = some (.cells #[.int .u32 v0, .int .u32 v1, .int .u32 v2, .int .u32 v3, .int .u32 v4, .int .u32 v5, .int .u32 v6, .int .u32 v7] 225 (0, 0)) := by
    intro W v0 v1 v2 v3 v4 v5 v6 v7 h
    exact blk_setCell (blk_setCell (blk_setCell (blk_setCell (blk_setCell (blk_setCell (blk_setCell (blk_setCell h 0 _) 1 _) 2 _) 3 _) 4 _) 5 _) 6 _) 7 _
  refine bodyPost_ret (results_cell_row rfl _ _ (q + 1) 225 _ (0, 0) _ rfl (hfin _ _ _ _ _ _ _ _ _ (blk_drewN HB2.out _)) Tryz.underlying225 rfl (by kernel_rfl)) rfl ?_
  refine ⟨?_, ?_⟩
  · have e1 : ∀ x y z v : Int, (s7 + n + x + y + (z + v)) % 4294967296 = ((((s7 + n) % 4294967296 + x) % 4294967296 + y) % 4294967296 + (z + v) % 4294967296) % 4294967296 := by intros; omega
    have e2 : ∀ x y : Int, (s3 + (s7 + n + x + y)) % 4294967296 = (s3 + (((s7 + n) % 4294967296 + x) % 4294967296 + y) % 4294967296) % 4294967296 := by intros; omega
    unfold upN onN
    simp only [IntKind.wrap_u32]
    first
      | rw [e1, e2]
      | (rw [← HUP.out, ← HON.out]; simp only [IntKind.wrap_u32])
  · rw [HQ.out]
    have hle : ∀ i, q ≤ (⟨q + 1, i, none⟩ : Addr).block := fun _ => Nat.le_succ q
    have hB : ∀ N, Below q w (W1.drewN N) := fun N => ⟨HB0.out.os, HB0.out.tape, HB0.out.output, HB0.out.size, HB0.out.block⟩
    exact ((((((((hB _).setCell (hle 0) _).setCell (hle 1) _).setCell (hle 2) _).setCell (hle 3) _).setCell (hle 4) _).setCell (hle 5) _).setCell (hle 6) _).setCell (hle 7) _
end Go.Proofs.YtblddkjdglliaaaGreatDoor
