/- Contracts: hash.take. -/
import Derived.Test.YtblddkjdglliaaaGreatDoorWide
import Derived.Test.YtblddkjdglliaaaGreatDoorOrder
namespace Go.Proofs.YtblddkjdglliaaaGreatDoor
open Go.RowKit

def roundL (s : List Int) (n : Int) : List Int :=
  let u := upN (s[4]?.getD 0) (s[5]?.getD 0) (s[6]?.getD 0) (s[7]?.getD 0) n
  [(u + onN (s[0]?.getD 0) (s[1]?.getD 0) (s[2]?.getD 0)) % 4294967296, s[0]?.getD 0, s[1]?.getD 0, s[2]?.getD 0, (s[3]?.getD 0 + u) % 4294967296, s[4]?.getD 0, s[5]?.getD 0, s[6]?.getD 0]
def aggU (s : List Int) : Value := .agg (ints .u32 s).toArray
theorem eight (s : List Int) (h : s.length = 8) : ∃ a b c d e f g i, s = [a, b, c, d, e, f, g, i] := by
  match s, h with
  | [a, b, c, d, e, f, g, i], _ => exact ⟨a, b, c, d, e, f, g, i, rfl⟩
theorem roundL_any (s : List Int) (n : Int) (w : World) (hl : s.length = 8) (hs : U32 s) :
    Calls Tryz.prog 212 #[aggU s, .int .u32 n] w fun e w' => e = .returned (aggU (roundL s n)) ∧ Below w.heap.size w w' := by
  obtain ⟨s0, s1, s2, s3, s4, s5, s6, s7, rfl⟩ := eight s hl
  exact round_any s0 s1 s2 s3 s4 s5 s6 s7 n w (hs s0 (by simp)) (hs s4 (by simp))
theorem roundL_ok (s : List Int) (n : Int) (hs : U32 s) : (roundL s n).length = 8 ∧ U32 (roundL s n) := by
  refine ⟨rfl, fun x hx => ?_⟩
  simp only [roundL, List.mem_cons, List.not_mem_nil, or_false] at hx
  rcases hx with rfl | rfl | rfl | rfl | rfl | rfl | rfl | rfl
  · omega
  · exact hs.at_ 0
  · exact hs.at_ 1
  · exact hs.at_ 2
  · omega
  · exact hs.at_ 4
  · exact hs.at_ 5
  · exact hs.at_ 6
/-- The state behind so many rounds over a block's numbers. -/
def takeK (s ws : List Int) : Nat → List Int
  | 0 => s
  | k + 1 => roundL (takeK s ws k) ((ws[k]?.getD 0 + turnsL[k]?.getD 0) % 4294967296)
theorem takeK_ok (s ws : List Int) (hl : s.length = 8) (hs : U32 s) (k : Nat) : (takeK s ws k).length = 8 ∧ U32 (takeK s ws k) := by
  induction k with
  | zero => exact ⟨hl, hs⟩
  | succ k ih => exact roundL_ok _ _ ih.2
/-- The state behind one block. -/
def takeL (s bs : List Int) : List Int := (List.range 8).map fun i => ((takeK s (wideK bs 64) 64)[i]?.getD 0 + s[i]?.getD 0) % 4294967296
theorem takeL_ok (s bs : List Int) : (takeL s bs).length = 8 ∧ U32 (takeL s bs) := by
  refine ⟨by simp [takeL], fun x hx => ?_⟩
  simp only [takeL, List.mem_map] at hx
  obtain ⟨i, _, rfl⟩ := hx
  omega

/-- The first so many numbers with those of the old state added. -/
def sumK (t s : List Int) (j : Nat) : List Int := (List.range t.length).map fun i => if i < j then (t[i]?.getD 0 + s[i]?.getD 0) % 4294967296 else t[i]?.getD 0
theorem sumK_zero (t s : List Int) : sumK t s 0 = t := list_range_self t 0 _
theorem sumK_length (t s : List Int) (j : Nat) : (sumK t s j).length = t.length := by simp [sumK]
theorem sumK_get (t s : List Int) (j : Nat) (h : j < t.length) : (sumK t s j)[j]?.getD 0 = t[j]?.getD 0 := by simp [sumK, h]
theorem sumK_set (t s : List Int) (j : Nat) : (sumK t s j).set j ((t[j]?.getD 0 + s[j]?.getD 0) % 4294967296) = sumK t s (j + 1) := set_of_take t j _ (fun i => (t[i]?.getD 0 + s[i]?.getD 0) % 4294967296) 0 rfl
theorem run_idx (X : Array Value) (hX : X.size = 64) (k : Nat) (hk : k < 64) (y : Int) (h : X[k]? = some (.int .u32 y)) (W : World) :
    Sem.run Tryz.prog (Instr.index 205 (.agg X) (.int .i64 k)) W = .ok (.int .u32 y) W := by
  have e : X.extract k (k + 1) = #[.int .u32 y] := by
    apply Array.ext_getElem?
    intro i
    rw [Array.getElem?_extract]
    cases i with
    | zero => simp [h]; omega
    | succ i => simp; omega
  have hk3 : (0 : Int) ≤ k ∧ (k : Int) < 64 := by omega
  have b : (sizeOf 146).run Tryz.prog W = .ok 1 W := Tryz.sizeOf146 W
  have a : (isAgg 146).run Tryz.prog W = .ok false W := Tryz.isAgg146 W
  simp [Instr.index, run_underlying Tryz.underlying205, asIntOf, go_sem, a, b, hk3, h, e, hX]
  intro h64
  omega

set_option maxRecDepth 100000 in
set_option maxHeartbeats 2000000 in
theorem take_any (s : List Int) (v : Value) (bs : List Int) (w : World) (hl : s.length = 8) (hs : U32 s) (h : HB w v bs) (hb : bs.length = 64) (hT : Turns w) :
    Calls Tryz.prog 182 #[aggU s, v] w fun e w' => e = .returned (aggU (takeL s bs)) ∧ Below w.heap.size w w' := by
  have WI := fun W hB => widen_any v bs W (h.below hB) hb
  obtain ⟨A, n, c, rfl⟩ := h.shape
  replace WI := Lib.hid WI
  have HH := Lib.hid h
  obtain ⟨s0, s1, s2, s3, s4, s5, s6, s7, rfl⟩ := eight s hl
  have r0 := hs s0 (by simp)
  have r1 := hs s1 (by simp)
  have r2 := hs s2 (by simp)
  have r3 := hs s3 (by simp)
  have r4 := hs s4 (by simp)
  have r5 := hs s5 (by simp)
  have r6 := hs s6 (by simp)
  have r7 := hs s7 (by simp)
  have TK := Lib.hid (takeK_ok [s0, s1, s2, s3, s4, s5, s6, s7] (wideK bs 64) hl hs)
  show Calls Tryz.prog 182 #[.agg #[.int .u32 s0, .int .u32 s1, .int .u32 s2, .int .u32 s3, .int .u32 s4, .int .u32 s5, .int .u32 s6, .int .u32 s7], .slice A n c] w _
  clear h hb hs hl
  go_enter Tryz.func182, Tryz.ntmps182
  go_wp2_with fail
  obtain ⟨W1, hW1⟩ : ∃ W, ((w.alloc (.cells #[.int .u32 s0, .int .u32 s1, .int .u32 s2, .int .u32 s3, .int .u32 s4, .int .u32 s5, .int .u32 s6, .int .u32 s7] 225)).alloc (.cells #[.int .u32 0, .int .u32 0, .int .u32 0, .int .u32 0, .int .u32 0, .int .u32 0, .int .u32 0, .int .u32 0] 225)).alloc (.cells #[.int .u32 s0, .int .u32 s1, .int .u32 s2, .int .u32 s3, .int .u32 s4, .int .u32 s5, .int .u32 s6, .int .u32 s7] 225) = W := ⟨_, rfl⟩
  have hb1 : W1.heap[w.heap.size]? = some (.cells #[.int .u32 s0, .int .u32 s1, .int .u32 s2, .int .u32 s3, .int .u32 s4, .int .u32 s5, .int .u32 s6, .int .u32 s7] 225 (0, 0)) := by rw [← hW1]; exact blk_alloc (blk_alloc (heap_alloc_new w _) _) _
  have hb2 : W1.heap[w.heap.size + 1]? = some (.cells #[.int .u32 0, .int .u32 0, .int .u32 0, .int .u32 0, .int .u32 0, .int .u32 0, .int .u32 0, .int .u32 0] 225 (0, 0)) := by rw [← hW1]; exact blk_alloc (heap_alloc2_new w _ _) _
  have hb3 : W1.heap[w.heap.size + 2]? = some (.cells #[.int .u32 s0, .int .u32 s1, .int .u32 s2, .int .u32 s3, .int .u32 s4, .int .u32 s5, .int .u32 s6, .int .u32 s7] 225 (0, 0)) := by
    rw [← hW1]
    have := heap_alloc_new ((w.alloc (.cells #[.int .u32 s0, .int .u32 s1, .int .u32 s2, .int .u32 s3, .int .u32 s4, .int .u32 s5, .int .u32 s6, .int .u32 s7] 225)).alloc (.cells #[.int .u32 0, .int .u32 0, .int .u32 0, .int .u32 0, .int .u32 0, .int .u32 0, .int .u32 0, .int .u32 0] 225)) (.cells #[.int .u32 s0, .int .u32 s1, .int .u32 s2, .int .u32 s3, .int .u32 s4, .int .u32 s5, .int .u32 s6, .int .u32 s7] 225)
    rw [World.size_alloc, World.size_alloc] at this
    exact this
  have hB1 : Below w.heap.size w W1 := by rw [← hW1]; exact (((Below.refl _ w).alloc (Nat.le_refl _) _).alloc (by simp) _).alloc (by simp only [World.size_alloc]; omega) _
  rw [hW1]
  clear hW1
  refine (WI.out W1 hB1).mono ?_
  rintro e W2 ⟨rfl, hB2⟩
  have hc1 := below_blk hB2 hb1
  have hc2 := below_blk hB2 hb2
  have hc3 := below_blk hB2 hb3
  have hB3 := hB1.trans (hB2.mono hB1.size)
  have hT2 := hT.below hB3
  have hT0 : 0 < w.heap.size := hT.1
  clear hb1 hb2 hb3 hB1 hB2 W1 hT
  obtain ⟨q, hq⟩ : ∃ q, w.heap.size = q := ⟨_, rfl⟩
  have hq0 : q ≠ 0 := by rw [← hq]; have := hT0; omega
  rw [hq] at hc1 hc2 hc3 ⊢
  have HQ := Lib.hid hq
  have H1 := Lib.hid hc1
  have H2 := Lib.hid hc2
  have H3 := Lib.hid hc3
  replace hT2 := Lib.hid hT2
  clear hq hc1 hc2 hc3
  obtain ⟨X, hX⟩ : ∃ X, (ints .u32 (wideK bs 64)).toArray = X := ⟨_, rfl⟩
  have hXs : X.size = 64 := by rw [← hX, List.size_toArray, ints_length, wideK_length]
  have hXk : ∀ k, k < 64 → X[k]? = some (.int .u32 ((wideK bs 64)[k]?.getD 0)) := by
    intro k hk
    rw [← hX, List.getElem?_toArray, ints_get _ _ _ (by rw [wideK_length]; exact hk)]
  rw [hX]
  replace hXk := Lib.hid hXk
  clear hX
  go_wp2_with fail
  go_loopw [12] (fun i wr => ∃ k : Nat, k ≤ 64 ∧ i = .int .i64 k ∧ RowU 225 wr (q + 2) (takeK [s0, s1, s2, s3, s4, s5, s6, s7] (wideK bs 64) k) ∧ Chg (fun j => j = q + 2) W2 wr) (fun i _ => 64 - (intOf i).toNat)
  case atStart => exact ⟨0, by omega, rfl, H3.out, Chg.refl _ _⟩
  case round =>
    obtain ⟨k, hk, rfl, hrow, hch⟩ := hrel
    by_cases hlt : k < 64
    · have hx := run_idx X hXs k hlt _ (hXk.out k hlt)
      have htk := (TK.out k).2
      obtain ⟨t0, t1, t2, t3, t4, t5, t6, t7, htt⟩ := eight _ (TK.out k).1
      have RO := fun n W => roundL_any _ n W (TK.out k).1 htk
      rw [htt] at hrow RO
      unfold RowU at hrow
      have htn : wr.cell? ⟨0, k, none⟩ = some (.int .u32 (turnsL[k]?.getD 0)) := ((hT2.out).chg hch (by omega)).2 k hlt
      have m0 : wr.cell? ⟨q + 2, 0, none⟩ = some (.int .u32 t0) := by rw [cell_of_blk hrow]; rfl
      have f0 := frozen_of_blk hrow 0
      have m1 : wr.cell? ⟨q + 2, 1, none⟩ = some (.int .u32 t1) := by rw [cell_of_blk hrow]; rfl
      have f1 := frozen_of_blk hrow 1
      have m2 : wr.cell? ⟨q + 2, 2, none⟩ = some (.int .u32 t2) := by rw [cell_of_blk hrow]; rfl
      have f2 := frozen_of_blk hrow 2
      have m3 : wr.cell? ⟨q + 2, 3, none⟩ = some (.int .u32 t3) := by rw [cell_of_blk hrow]; rfl
      have f3 := frozen_of_blk hrow 3
      have m4 : wr.cell? ⟨q + 2, 4, none⟩ = some (.int .u32 t4) := by rw [cell_of_blk hrow]; rfl
      have f4 := frozen_of_blk hrow 4
      have m5 : wr.cell? ⟨q + 2, 5, none⟩ = some (.int .u32 t5) := by rw [cell_of_blk hrow]; rfl
      have f5 := frozen_of_blk hrow 5
      have m6 : wr.cell? ⟨q + 2, 6, none⟩ = some (.int .u32 t6) := by rw [cell_of_blk hrow]; rfl
      have f6 := frozen_of_blk hrow 6
      have m7 : wr.cell? ⟨q + 2, 7, none⟩ = some (.int .u32 t7) := by rw [cell_of_blk hrow]; rfl
      have f7 := frozen_of_blk hrow 7
      have hstep : takeK [s0, s1, s2, s3, s4, s5, s6, s7] (wideK bs 64) (k + 1) = roundL [t0, t1, t2, t3, t4, t5, t6, t7] (((wideK bs 64)[k]?.getD 0 + turnsL[k]?.getD 0) % 4294967296) := by rw [takeK, htt]
      replace hstep := Lib.hid hstep
      have HR := Lib.hid hrow
      have HTT := Lib.hid htt
      replace RO := Lib.hid RO
      clear hrow htt htk
      generalize (wideK bs 64)[k]?.getD 0 = y at *
      generalize turnsL[k]?.getD 0 = z at *
      go_wp2_with fail
      refine region_quiet_tail 6 (by kernel_rfl) (by kernel_rfl) ?_
      simp only [List.take_succ_cons, List.take_zero, List.drop_succ_cons, List.drop_zero]
      repeat (quiet_step (fail))
      refine wpQuiet_nil ?_
      intro _ hw'
      obtain ⟨nq, hw''⟩ := hw'
      subst hw''
      go_wp2_with fail
      obtain ⟨u0, u1, u2, u3, u4, u5, u6, u7, huu⟩ := eight (roundL [t0, t1, t2, t3, t4, t5, t6, t7] ((y + z) % 4294967296)) rfl
      have RO2 := RO.out ((y + z) % 4294967296) (wr.drewN nq)
      rw [huu] at RO2
      change Calls Tryz.prog 212 #[.agg #[.int .u32 t0, .int .u32 t1, .int .u32 t2, .int .u32 t3, .int .u32 t4, .int .u32 t5, .int .u32 t6, .int .u32 t7], .int .u32 ((y + z) % 4294967296)] (wr.drewN nq) fun e w' => e = .returned (.agg #[.int .u32 u0, .int .u32 u1, .int .u32 u2, .int .u32 u3, .int .u32 u4, .int .u32 u5, .int .u32 u6, .int .u32 u7]) ∧ Below (wr.drewN nq).heap.size (wr.drewN nq) w' at RO2
      refine RO2.mono ?_
      rintro e w3 ⟨rfl, hB5⟩
      have hr3 := below_blk hB5 (blk_drewN HR.out nq)
      have hch3 : Chg (fun j => j = q + 2) W2 w3 := (hch.then_drewN nq).then_below hB5
      have HUU := Lib.hid huu
      have n0 : w3.cell? ⟨q + 2, 0, none⟩ = some (.int .u32 t0) := by rw [cell_of_blk hr3]; rfl
      have g0 := frozen_of_blk hr3 0
      have n1 : w3.cell? ⟨q + 2, 1, none⟩ = some (.int .u32 t1) := by rw [cell_of_blk hr3]; rfl
      have g1 := frozen_of_blk hr3 1
      have n2 : w3.cell? ⟨q + 2, 2, none⟩ = some (.int .u32 t2) := by rw [cell_of_blk hr3]; rfl
      have g2 := frozen_of_blk hr3 2
      have n3 : w3.cell? ⟨q + 2, 3, none⟩ = some (.int .u32 t3) := by rw [cell_of_blk hr3]; rfl
      have g3 := frozen_of_blk hr3 3
      have n4 : w3.cell? ⟨q + 2, 4, none⟩ = some (.int .u32 t4) := by rw [cell_of_blk hr3]; rfl
      have g4 := frozen_of_blk hr3 4
      have n5 : w3.cell? ⟨q + 2, 5, none⟩ = some (.int .u32 t5) := by rw [cell_of_blk hr3]; rfl
      have g5 := frozen_of_blk hr3 5
      have n6 : w3.cell? ⟨q + 2, 6, none⟩ = some (.int .u32 t6) := by rw [cell_of_blk hr3]; rfl
      have g6 := frozen_of_blk hr3 6
      have n7 : w3.cell? ⟨q + 2, 7, none⟩ = some (.int .u32 t7) := by rw [cell_of_blk hr3]; rfl
      have g7 := frozen_of_blk hr3 7
      replace hr3 := Lib.hid hr3
      clear huu RO2 hB5
      go_wp2
      refine ⟨⟨k + 1, by omega, by go_num, ?_, ?_⟩, by simp [intOf]; omega⟩
      · rw [hstep.out, HUU.out]
        exact blk_setCell (blk_setCell (blk_setCell (blk_setCell (blk_setCell (blk_setCell (blk_setCell (blk_setCell hr3.out 0 _) 1 _) 2 _) 3 _) 4 _) 5 _) 6 _) 7 _
      · exact (((((((hch3.then_setCell (a := ⟨q + 2, 0, none⟩) (.inl rfl) _).then_setCell (a := ⟨q + 2, 1, none⟩) (.inl rfl) _).then_setCell (a := ⟨q + 2, 2, none⟩) (.inl rfl) _).then_setCell (a := ⟨q + 2, 3, none⟩) (.inl rfl) _).then_setCell (a := ⟨q + 2, 4, none⟩) (.inl rfl) _).then_setCell (a := ⟨q + 2, 5, none⟩) (.inl rfl) _).then_setCell (a := ⟨q + 2, 6, none⟩) (.inl rfl) _).then_setCell (a := ⟨q + 2, 7, none⟩) (.inl rfl) _
    · obtain rfl : k = 64 := by omega
      obtain ⟨htl, htu⟩ := TK.out 64
      obtain ⟨t, htt⟩ : ∃ t, takeK [s0, s1, s2, s3, s4, s5, s6, s7] (wideK bs 64) 64 = t := ⟨_, rfl⟩
      rw [htt] at hrow htl htu
      have HTT := Lib.hid htt
      have HROW := Lib.hid hrow
      have HCH := Lib.hid hch
      clear htt hrow hch
      go_wp2_with fail
      go_loopw [24] (fun i wr => ∃ j : Nat, j ≤ 8 ∧ i = .int .i64 j ∧ RowU 225 wr (q + 2) (sumK t [s0, s1, s2, s3, s4, s5, s6, s7] j) ∧ Chg (fun j => j = q + 2) W2 wr) (fun i _ => 8 - (intOf i).toNat)
      case atStart => exact ⟨0, by omega, rfl, by rw [sumK_zero]; exact HROW.out, HCH.out⟩
      case round =>
        obtain ⟨j, hj, rfl, hrow, hch⟩ := hrel
        by_cases hlj : j < 8
        · have hst := sumK_set t [s0, s1, s2, s3, s4, s5, s6, s7] j
          have hj1 := hrow.cell j (by rw [sumK_length, htl]; exact hlj)
          rw [sumK_get _ _ _ (by rw [htl]; exact hlj)] at hj1
          have hj2 : wr.cell? ⟨q, j, none⟩ = some (.int .u32 ([s0, s1, s2, s3, s4, s5, s6, s7][j]?.getD 0)) := by
            have e := hch.blk H1.out (by omega)
            rw [cell_of_blk e]
            have := ints_get .u32 [s0, s1, s2, s3, s4, s5, s6, s7] j (by simpa using hlj)
            simpa [ints] using this
          have ra := htu.at_ j
          have hfz := hrow.frozen j
          have hjI : (j : Int) < 8 := by omega
          have HST := Lib.hid hst
          have HR := Lib.hid hrow
          clear hst hrow
          generalize [s0, s1, s2, s3, s4, s5, s6, s7][j]?.getD 0 = y at *
          generalize t[j]?.getD 0 = z at *
          go_wp2_with fail
          refine region_quiet_tail 8 (by kernel_rfl) (by kernel_rfl) ?_
          simp only [List.take_succ_cons, List.take_zero, List.drop_succ_cons, List.drop_zero]
          repeat (quiet_step (fail))
          refine wpQuiet_nil ?_
          intro _ hw'
          obtain ⟨nq, hw''⟩ := hw'
          subst hw''
          go_wp2
          refine ⟨⟨_, _, _, _, _, _, _, _, _, _, _, _, _, ⟨j + 1, by omega, by go_num, ?_, ?_⟩, rfl⟩, ?_⟩
          · rw [← HST.out]; exact RowU.set (w := wr.drewN nq) HR.out j _
          · exact (hch.then_drewN nq).then_setCell (a := ⟨q + 2, j, none⟩) (.inl rfl) _
          · simp [intOf]; omega
        · obtain rfl : j = 8 := by omega
          have hfin : sumK t [s0, s1, s2, s3, s4, s5, s6, s7] 8 = takeL [s0, s1, s2, s3, s4, s5, s6, s7] bs := by
            unfold sumK takeL
            rw [HTT.out, htl]
            apply List.map_congr_left
            intro i hi
            rw [if_pos (List.mem_range.1 hi)]
          rw [hfin] at hrow
          have hz := hch.blk H2.out (by omega)
          have hlen : (ints .u32 (takeL [s0, s1, s2, s3, s4, s5, s6, s7] bs)).toArray.size = 8 := by rw [List.size_toArray, ints_length, (takeL_ok _ _).1]
          have hi3 : (Tryz.prog.info? 225).map (·.size) = some (ints .u32 (takeL [s0, s1, s2, s3, s4, s5, s6, s7] bs)).toArray.size := by rw [hlen]; kernel_rfl
          have hone : (ints .u32 (takeL [s0, s1, s2, s3, s4, s5, s6, s7] bs)).toArray.all (·.oneCell') = true := by
            rw [Array.all_eq_true_iff_forall_mem]
            intro x hx
            exact ints_one _ _ x (by simpa using hx)
          have hBr : Below w.heap.size w wr := hB3.trans (hch.to_below hB3.size (fun j e => by rw [HQ.out]; omega))
          unfold RowU at hrow
          obtain ⟨cs, hcs⟩ : ∃ cs, (ints .u32 (takeL [s0, s1, s2, s3, s4, s5, s6, s7] bs)).toArray = cs := ⟨_, rfl⟩
          rw [hcs] at hrow hlen hi3 hone
          have HCS := Lib.hid hcs
          clear hcs
          have HS0 : Hid (#[Value.int .u32 0, Value.int .u32 0, Value.int .u32 0, Value.int .u32 0, Value.int .u32 0, Value.int .u32 0, Value.int .u32 0, Value.int .u32 0].size = cs.size) := Lib.hid hlen.symm
          have HR := Lib.hid hrow
          have HZ := Lib.hid hz
          have HI3 := Lib.hid hi3
          have HONE := Lib.hid hone
          clear hrow hz hlen hi3 hone hfin hch
          go_wp2_with (first
            | (refine wpList_load_row rfl 225 (.tmp 5) rfl (q + 2) rfl 225 cs (0, 0) _ HR.out Tryz.underlying225 rfl HI3.out ?_)
            | (refine wpList_store_row rfl 225 (.tmp 4) (.tmp 36) rfl (q + 1) cs rfl rfl 225 _ HZ.out HI3.out HS0.out HONE.out ?_))
          refine bodyPost_ret (results_cell_row rfl _ _ (q + 1) 225 cs (0, 0) _ rfl (setRow_heap _ _ _ _ _ _ HZ.out) Tryz.underlying225 rfl HI3.out) rfl ?_
          refine ⟨?_, below_setRow hBr (by rw [HQ.out]; exact Nat.le_succ q) _⟩
          unfold aggU
          rw [HCS.out]
end Go.Proofs.YtblddkjdglliaaaGreatDoor
