/- Contract: Task.Next. Conditions: a task, a pool, each as its word says. -/
import Derived.Test.YtblddkjdglliaaaGreatDoorStore
import Derived.Test.YtblddkjdglliaaaGreatDoorPlan
namespace Go.Proofs.YtblddkjdglliaaaGreatDoor
open Go.RowKit

set_option maxRecDepth 100000 in
theorem next_not (b : Nat) (t : TaskM) (v : Value) (k m : Int) (w : World) (h : IsTask w b t) (ho : t.op ≠ 1 ∨ t.planned = false) :
    Calls Tryz.prog 20 #[tptr b, v, .int .i64 k, .int .i64 m] w fun e w' => e = .returned (.tuple #[.bool false, .int .i64 1]) ∧ w = w' := by
  have OP := h.op_
  obtain ⟨dv, sv, h1, _⟩ := h
  have m8 : w.cell? ⟨b, 8, none⟩ = some (.bool t.planned) := by rw [cell_of_blk h1]; rfl
  clear h1
  unfold tptr at *
  generalize t.op = x at *
  generalize t.planned = y at *
  by_cases hx : x = 1
  · subst hx
    obtain rfl : y = false := by rcases ho with h | h; exact absurd rfl h; exact h
    go_enter Tryz.func20, Tryz.ntmps20
    go_wp2_with (go_at_call 24; refine OP.mono ?_; rintro e w' ⟨rfl, rfl⟩)
    go_ret2
    exact ⟨rfl, rfl⟩
  · have hx' : (x != 1) = true := by simpa using hx
    go_enter Tryz.func20, Tryz.ntmps20
    go_wp2_with (go_at_call 24; refine OP.mono ?_; rintro e w' ⟨rfl, rfl⟩)
    go_ret2
    exact ⟨rfl, rfl⟩
set_option maxRecDepth 100000 in
theorem next_done (b : Nat) (t : TaskM) (v : Value) (k m : Nat) (w : World) (h : IsTask w b t) (ho : t.op = 1) (hp : t.planned = true) (hl : t.strs.length ≤ 100) (hk4 : k ≤ 4) (hm3 : m ≤ 3) (hat : t.at_ = ((2 * (t.strs.length * (k + m)) : Nat) : Int)) :
    Calls Tryz.prog 20 #[tptr b, v, .int .i64 k, .int .i64 m] w fun e w' => e = .returned (.tuple #[.bool true, .int .i64 0]) ∧ w = w' := by
  have OP := h.op_
  obtain ⟨dv, sv, h1, _, h3⟩ := h
  have m8 : w.cell? ⟨b, 8, none⟩ = some (.bool t.planned) := by rw [cell_of_blk h1]; rfl
  have m9 : w.cell? ⟨b, 9, none⟩ = some (.int .i64 t.at_) := by rw [cell_of_blk h1]; rfl
  obtain ⟨S, n, c, rfl⟩ := h3.shape
  have m7 : w.cell? ⟨b, 7, none⟩ = some (.slice S n c) := by rw [cell_of_blk h1]; rfl
  obtain ⟨hn, _, _, _⟩ := h3.cell
  rw [← hn] at hl hat
  rw [hp] at m8
  rw [ho] at OP
  rw [hat] at m9
  clear h1 h3 hn hat
  unfold tptr at *
  have hb : n * (k + m) ≤ 100 * 7 := Nat.mul_le_mul hl (by omega)
  have e1 : (n : Int) * ((k : Int) + m) = ((n * (k + m) : Nat) : Int) := by push_cast; rfl
  generalize n * (k + m) = N at *
  have e2 : ((2 * N : Nat) : Int) = 2 * (N : Int) := by push_cast; rfl
  rw [e2] at m9
  go_enter Tryz.func20, Tryz.ntmps20
  go_wp2_with (go_at_call 24; refine OP.mono ?_; rintro e w' ⟨rfl, rfl⟩)
  go_ret2
  exact ⟨rfl, rfl⟩
/-- What a step of a planned Put does to the pool: at: the thing's number. -/
def TaskM.locAt (t : TaskM) (q i : Nat) : Int := ((t.strs[q]?.getD .zero).locs[i]?.getD 0)
def TaskM.step (t : TaskM) (k m : Nat) (mp : PoolM) (a : Nat) : Int × PoolM :=
  if a < t.strs.length * (k + m) then mp.store (t.locAt (a / (k + m)) (a % (k + m))) (t.strs[a / (k + m)]?.getD .zero).id (a % (k + m) : Nat) (shardL k m t.data (a / (k + m)) (a % (k + m)))
  else mp.flush (t.locAt ((a - t.strs.length * (k + m)) / (k + m)) ((a - t.strs.length * (k + m)) % (k + m)))
/-- All that a step asks of a planned task. -/
structure Ready (t : TaskM) (k m : Nat) : Prop where
  op : t.op = 1
  planned : t.planned = true
  count : t.strs.length = countN k t.data.length
  few : t.data.length ≤ 96
  locs : ∀ i, i < t.strs.length → (t.strs[i]?.getD .zero).locs.length = k + m
  ids : ∀ i, i < t.strs.length → 0 ≤ (t.strs[i]?.getD .zero).id ∧ (t.strs[i]?.getD .zero).id ≤ 1073741824
theorem quo_cast (a c : Nat) : ((a : Int).tdiv (c : Int)) = ((a / c : Nat) : Int) := by rw [Int.tdiv_eq_ediv_of_nonneg (by omega)]; rfl
theorem rem_cast (a c : Nat) : ((a : Int).tmod (c : Int)) = ((a % c : Nat) : Int) := by rw [Int.tmod_eq_emod_of_nonneg (by omega)]; rfl

set_option maxRecDepth 100000 in
set_option maxHeartbeats 2000000 in
theorem next_store (b p : Nat) (t : TaskM) (L : Lay) (mp : PoolM) (k m a : Nat) (w : World) (h : IsTask w b t) (hp : IsPool w p L mp) (hr : mp.room) (hk1 : 1 ≤ k) (hk4 : k ≤ 4) (hm3 : m ≤ 3) (R : Ready t k m) (hat : t.at_ = a) (ha : a < t.strs.length * (k + m)) :
    Calls Tryz.prog 20 #[tptr b, pptr p, .int .i64 k, .int .i64 m] w fun e w' => ∃ L',
      e = .returned (.tuple #[.bool false, .int .i64 (t.step k m mp a).1]) ∧ IsPool w' p L' (t.step k m mp a).2 ∧ IsTask w' b (if (t.step k m mp a).1 = 0 then { t with at_ := a + 1 } else t) ∧ Chg (fun j => j = b ∨ PFp p L j) w w' ∧ ∀ j, PFp p L' j → PFp p L j ∨ w.heap.size ≤ j := by
  have hc : 0 < k + m := by omega
  have hq : a / (k + m) < t.strs.length := Nat.div_lt_of_lt_mul (by rw [Nat.mul_comm]; exact ha)
  have hi : a % (k + m) < k + m := Nat.mod_lt _ hc
  have hle := countN_le k t.data.length hk1 R.few
  have ST := fun nq => tstore_any b p t L mp k m (a / (k + m)) (a % (k + m)) (w.drewN nq) (h.below (below_drewN' (Below.refl _ w) nq)) (hp.below (below_drewN' (Below.refl _ w) nq)) hr hk1 hk4 hm3 R.few (by rw [← R.count]; exact hq) hq hi (by rw [R.locs _ hq]; exact hi) (R.ids _ hq)
  have hst : t.step k m mp a = mp.store (t.locAt (a / (k + m)) (a % (k + m))) (t.strs[a / (k + m)]?.getD .zero).id (a % (k + m) : Nat) (shardL k m t.data (a / (k + m)) (a % (k + m))) := by rw [TaskM.step, if_pos ha]
  unfold TaskM.locAt at hst
  rw [← hst] at ST
  obtain ⟨x, hx⟩ : ∃ x, t.step k m mp a = x := ⟨_, rfl⟩
  rw [hx] at ST ⊢
  obtain ⟨r, mp'⟩ := x
  simp only at ST ⊢
  clear hx hst
  obtain ⟨Q, hQ⟩ : ∃ Q : Ending → World → Prop, Q = fun e w' => ∃ L',
      e = .returned (.tuple #[.bool false, .int .i64 r]) ∧ IsPool w' p L' mp' ∧ IsTask w' b (if r = 0 then { t with at_ := a + 1 } else t) ∧ Chg (fun j => j = b ∨ PFp p L j) w w' ∧ ∀ j, PFp p L' j → PFp p L j ∨ w.heap.size ≤ j := ⟨_, rfl⟩
  rw [← hQ]
  replace hQ := Lib.hid hQ
  have HP := Lib.hid hp
  have HT := Lib.hid h
  have OP := h.op_
  rw [R.op] at OP
  have hl := R.count
  obtain ⟨dv, sv, h1, _, h3⟩ := h
  have m8 : w.cell? ⟨b, 8, none⟩ = some (.bool true) := by rw [cell_of_blk h1, ← R.planned]; rfl
  have m9 : w.cell? ⟨b, 9, none⟩ = some (.int .i64 a) := by rw [cell_of_blk h1, ← hat]; rfl
  obtain ⟨S, n, c, rfl⟩ := h3.shape
  have m7 : w.cell? ⟨b, 7, none⟩ = some (.slice S n c) := by rw [cell_of_blk h1]; rfl
  obtain ⟨hn, _, _, _⟩ := h3.cell
  have hn12 : n ≤ 12 := by omega
  have ha2 : a < n * (k + m) := by rw [hn]; exact ha
  have hN : n * (k + m) ≤ 12 * 7 := Nat.mul_le_mul hn12 (by omega)
  have e1 : (n : Int) * ((k : Int) + m) = ((n * (k + m) : Nat) : Int) := by push_cast; rfl
  have e3 := quo_cast a (k + m)
  have e4 := rem_cast a (k + m)
  have hz : ((k : Int) + (m : Int) == 0) = false := by simp; omega
  generalize n * (k + m) = N at *
  rw [Int.natCast_add] at e3 e4
  have hqb : a / (k + m) ≤ a := Nat.div_le_self _ _
  generalize a / (k + m) = qq at *
  generalize a % (k + m) = rr at *
  have hw1 : IntKind.i64.wrap ((k : Int) + (m : Int)) = (k : Int) + m := IntWalk.i64_in _ (by omega)
  have hw2 : ¬ ((k : Int) + (m : Int) = 0) := by omega
  have hw3 : (a : Int) / ((k : Int) + (m : Int)) = qq := by rw [← e3, Int.tdiv_eq_ediv_of_nonneg (by omega)]
  have hw4 : (a : Int) % ((k : Int) + (m : Int)) = rr := by rw [← e4, Int.tmod_eq_emod_of_nonneg (by omega)]
  have hw5 : IntKind.i64.wrap (qq : Int) = qq := IntWalk.i64_in _ (by omega)
  replace ST := Lib.hid ST
  have H1 := Lib.hid h1
  have Hat := Lib.hid hat
  clear h1 h3 hn hl hp R hq hi ha hle hat
  unfold tptr pptr at *
  go_enter Tryz.func20, Tryz.ntmps20
  go_wp2_with (go_at_call 24; refine OP.mono ?_; rintro e w' ⟨rfl, rfl⟩)
  refine region_quiet_tail 20 (by kernel_rfl) (by kernel_rfl) ?_
  simp only [List.take_succ_cons, List.take_zero, List.drop_succ_cons, List.drop_zero]
  repeat (quiet_step (fail))
  refine wpQuiet_nil ?_
  intro _ hw'
  obtain ⟨nq, hw''⟩ := hw'
  subst hw''
  go_wp2_with fail
  refine (ST.out nq).mono ?_
  rintro e5 w4 ⟨L', rfl, hP4, hs4⟩
  have hBn : Below w.heap.size w (w.drewN nq) := below_drewN' (Below.refl _ w) nq
  have hT4 := (HT.out.below hBn).pstep (HP.out.below hBn) hs4
  have hch4 : Chg (PFp p L) w w4 := (Chg.of_below hBn).trans hs4.chg fun _ _ x => x
  have hbp : ¬ PFp p L b := by
    intro hk
    obtain ⟨cur', e', g1, h2⟩ := PFp_ty HP.out hk
    rw [H1.out] at g1; cases g1
    rcases h2 with h2 | h2 | h2 | h2 | h2 <;> cases h2
  have hfp : ∀ j, PFp p L' j → PFp p L j ∨ w.heap.size ≤ j := fun j hj => hs4.fp j hj
  have hb4 := hch4.blk H1.out hbp
  replace ST := Lib.hid hc
  clear m7 m8 m9
  by_cases hr0 : r = 0
  · subst hr0
    have m9 : w4.cell? ⟨b, 9, none⟩ = some (.int .i64 t.at_) := by rw [cell_of_blk hb4]; rfl
    rw [Hat.out] at m9
    have f9 := frozen_of_blk hb4 9
    have HB4 := Lib.hid hb4
    clear hb4
    go_wp2_with fail
    rw [hQ.out]
    have hch5 : Chg (fun j => j = b) w4 (w4.setCell ⟨b, 9, none⟩ (.int .i64 (a + 1))) := Chg.setCell (O := fun j => j = b) (a := ⟨b, 9, none⟩) rfl _
    refine ⟨L', rfl, hP4.task hT4 hch5, ?_, ?_, hfp⟩
    · rw [if_pos trivial]
      obtain ⟨dv', sv', g1, g2, g3⟩ := hT4
      refine ⟨dv', sv', ?_, g2.chg hch5 ?_, g3.chg hch5 ?_⟩
      · exact (blk_setCell g1 9 (.int .i64 (a + 1))).trans rfl
      · rintro b' cur fr rfl e
        rw [g1] at e; cases e
      · rintro b' cur ty fr hty rfl e
        rw [g1] at e; cases e; rcases hty with h | h <;> cases h
    · exact (hch4.mono (O' := fun j => j = b ∨ PFp p L j) fun _ _ x => .inr x).trans hch5 fun _ _ x => .inl x
  · have hr1 : (r != 0) = true := by simpa using hr0
    clear hb4
    go_wp2_with fail
    rw [hQ.out]
    refine ⟨L', rfl, hP4, ?_, hch4.mono fun _ _ x => .inr x, hfp⟩
    rw [if_neg hr0]
    exact hT4

set_option maxRecDepth 100000 in
set_option maxHeartbeats 2000000 in
theorem next_flush (b p : Nat) (t : TaskM) (L : Lay) (mp : PoolM) (k m a : Nat) (w : World) (h : IsTask w b t) (hp : IsPool w p L mp) (hk1 : 1 ≤ k) (hk4 : k ≤ 4) (hm3 : m ≤ 3) (R : Ready t k m) (hat : t.at_ = ((t.strs.length * (k + m) + a : Nat) : Int)) (ha : a < t.strs.length * (k + m)) :
    Calls Tryz.prog 20 #[tptr b, pptr p, .int .i64 k, .int .i64 m] w fun e w' => ∃ L',
      e = .returned (.tuple #[.bool false, .int .i64 (t.step k m mp (t.strs.length * (k + m) + a)).1]) ∧ IsPool w' p L' (t.step k m mp (t.strs.length * (k + m) + a)).2 ∧ IsTask w' b (if (t.step k m mp (t.strs.length * (k + m) + a)).1 = 0 then { t with at_ := (t.strs.length * (k + m) + a : Nat) + 1 } else t) ∧ Chg (fun j => j = b ∨ PFp p L j) w w' ∧ ∀ j, PFp p L' j → PFp p L j ∨ w.heap.size ≤ j := by
  have hc : 0 < k + m := by omega
  have hq : a / (k + m) < t.strs.length := Nat.div_lt_of_lt_mul (by rw [Nat.mul_comm]; exact ha)
  have hi : a % (k + m) < k + m := Nat.mod_lt _ hc
  have hle := countN_le k t.data.length hk1 R.few
  have hst : t.step k m mp (t.strs.length * (k + m) + a) = mp.flush (t.locAt (a / (k + m)) (a % (k + m))) := by rw [TaskM.step, if_neg (by omega), Nat.add_sub_cancel_left]
  have ST := fun nq => pflush_any p L mp (t.locAt (a / (k + m)) (a % (k + m))) (w.drewN nq) (hp.below (below_drewN' (Below.refl _ w) nq))
  rw [← hst] at ST
  unfold TaskM.locAt at ST
  obtain ⟨x, hx⟩ : ∃ x, t.step k m mp (t.strs.length * (k + m) + a) = x := ⟨_, rfl⟩
  rw [hx] at ST ⊢
  obtain ⟨r, mp'⟩ := x
  simp only at ST ⊢
  clear hx hst
  obtain ⟨Q, hQ⟩ : ∃ Q : Ending → World → Prop, Q = fun e w' => ∃ L',
      e = .returned (.tuple #[.bool false, .int .i64 r]) ∧ IsPool w' p L' mp' ∧ IsTask w' b (if r = 0 then { t with at_ := (t.strs.length * (k + m) + a : Nat) + 1 } else t) ∧ Chg (fun j => j = b ∨ PFp p L j) w w' ∧ ∀ j, PFp p L' j → PFp p L j ∨ w.heap.size ≤ j := ⟨_, rfl⟩
  rw [← hQ]
  replace hQ := Lib.hid hQ
  have HP := Lib.hid hp
  have HT := Lib.hid h
  have OP := h.op_
  rw [R.op] at OP
  have hl := R.count
  obtain ⟨dv, sv, h1, _, h3⟩ := h
  obtain ⟨S, n, c, rfl⟩ := h3.shape
  obtain ⟨hn, _, _, hsc⟩ := h3.cell
  obtain ⟨g3, u3, rfl, _, _, s2, hu3⟩ := hsc (a / (k + m)) (by rw [hn]; exact hq)
  obtain ⟨X, xn, xc, rfl⟩ := hu3.shape
  obtain ⟨hxn, _, hxc⟩ := hu3.toC.cell
  have hlc := R.locs _ hq
  obtain ⟨xb, xo, rfl, hx⟩ := hxc (a % (k + m)) (by rw [hxn, hlc]; exact hi)
  have m8 : w.cell? ⟨b, 8, none⟩ = some (.bool true) := by rw [cell_of_blk h1, ← R.planned]; rfl
  have hn12 : n ≤ 12 := by omega
  have m9 : w.cell? ⟨b, 9, none⟩ = some (.int .i64 ((n * (k + m) + a : Nat) : Int)) := by rw [cell_of_blk h1, hn, ← hat]; rfl
  have m7 : w.cell? ⟨b, 7, none⟩ = some (.slice (some ⟨g3, 0, none⟩) n c) := by rw [cell_of_blk h1]; rfl
  have ha2 : a < n * (k + m) := by rw [hn]; exact ha
  have hqn : a / (k + m) < n := by rw [hn]; exact hq
  have hix : a % (k + m) < xn := by rw [hxn, hlc]; exact hi
  have hN : n * (k + m) ≤ 12 * 7 := Nat.mul_le_mul hn12 (by omega)
  have e1 : (n : Int) * ((k : Int) + m) = ((n * (k + m) : Nat) : Int) := by push_cast; rfl
  have e3 := quo_cast a (k + m)
  have e4 := rem_cast a (k + m)
  have Hat : Hid (t.at_ = ((n * (k + m) + a : Nat) : Int)) := Lib.hid (by rw [hn]; exact hat)
  rw [← hn] at hQ
  generalize n * (k + m) = N at *
  rw [Int.natCast_add] at e3 e4 m9
  have hqb : a / (k + m) ≤ a := Nat.div_le_self _ _
  generalize a / (k + m) = qq at *
  generalize a % (k + m) = rr at *
  have hw1 : IntKind.i64.wrap ((k : Int) + (m : Int)) = (k : Int) + m := IntWalk.i64_in _ (by omega)
  have hw2 : ¬ ((k : Int) + (m : Int) = 0) := by omega
  have hw3 : (a : Int) / ((k : Int) + (m : Int)) = qq := by rw [← e3, Int.tdiv_eq_ediv_of_nonneg (by omega)]
  have hw4 : (a : Int) % ((k : Int) + (m : Int)) = rr := by rw [← e4, Int.tmod_eq_emod_of_nonneg (by omega)]
  have hw5 : IntKind.i64.wrap (qq : Int) = qq := IntWalk.i64_in _ (by omega)
  have hsub : (N : Int) + (a : Int) - (N : Int) = a := by omega
  have hqI : (qq : Int) < n := by omega
  have hrI : (rr : Int) < xn := by omega
  replace ST := Lib.hid ST
  have H1 := Lib.hid h1
  generalize (t.strs[qq]?.getD StripeM.zero).locs[rr]?.getD 0 = z at *
  clear h1 h3 hn hl hp R hq hi ha hle hat hsc hxc hxn hlc hu3
  unfold tptr pptr at *
  go_enter Tryz.func20, Tryz.ntmps20
  go_wp2_with (go_at_call 24; refine OP.mono ?_; rintro e w' ⟨rfl, rfl⟩)
  refine region_quiet_tail 21 (by kernel_rfl) (by kernel_rfl) ?_
  simp only [List.take_succ_cons, List.take_zero, List.drop_succ_cons, List.drop_zero]
  repeat (quiet_step (fail))
  refine wpQuiet_nil ?_
  intro _ hw'
  obtain ⟨nq, hw''⟩ := hw'
  subst hw''
  go_wp2_with fail
  refine (ST.out nq).mono ?_
  rintro e5 w4 ⟨L', rfl, hP4, hs4⟩
  have hBn : Below w.heap.size w (w.drewN nq) := below_drewN' (Below.refl _ w) nq
  have hT4 := (HT.out.below hBn).pstep (HP.out.below hBn) hs4
  have hch4 : Chg (PFp p L) w w4 := (Chg.of_below hBn).trans hs4.chg fun _ _ x => x
  have hbp : ¬ PFp p L b := by
    intro hk
    obtain ⟨cur', e', g1, h2⟩ := PFp_ty HP.out hk
    rw [H1.out] at g1; cases g1
    rcases h2 with h2 | h2 | h2 | h2 | h2 <;> cases h2
  have hfp : ∀ j, PFp p L' j → PFp p L j ∨ w.heap.size ≤ j := fun j hj => hs4.fp j hj
  have hb4 := hch4.blk H1.out hbp
  clear m7 m8 m9 hx s2
  by_cases hr0 : r = 0
  · subst hr0
    have m9 : w4.cell? ⟨b, 9, none⟩ = some (.int .i64 t.at_) := by rw [cell_of_blk hb4]; rfl
    rw [Hat.out, Int.natCast_add] at m9
    have f9 := frozen_of_blk hb4 9
    have HB4 := Lib.hid hb4
    clear hb4
    go_wp2_with fail
    rw [hQ.out]
    have hch5 : Chg (fun j => j = b) w4 (w4.setCell ⟨b, 9, none⟩ (.int .i64 ((N : Int) + a + 1))) := Chg.setCell (O := fun j => j = b) (a := ⟨b, 9, none⟩) rfl _
    refine ⟨L', rfl, hP4.task hT4 hch5, ?_, ?_, hfp⟩
    · rw [if_pos trivial]
      obtain ⟨dv', sv', g1, g2, g3⟩ := hT4
      refine ⟨dv', sv', ?_, g2.chg hch5 ?_, g3.chg hch5 ?_⟩
      · exact (blk_setCell g1 9 (.int .i64 ((N : Int) + a + 1))).trans rfl
      · rintro b' cur fr rfl e
        rw [g1] at e; cases e
      · rintro b' cur ty fr hty rfl e
        rw [g1] at e; cases e; rcases hty with h | h <;> cases h
    · exact (hch4.mono (O' := fun j => j = b ∨ PFp p L j) fun _ _ x => .inr x).trans hch5 fun _ _ x => .inl x
  · have hr1 : (r != 0) = true := by simpa using hr0
    clear hb4
    go_wp2_with fail
    rw [hQ.out]
    refine ⟨L', rfl, hP4, ?_, hch4.mono fun _ _ x => .inr x, hfp⟩
    rw [if_neg hr0]
    exact hT4
end Go.Proofs.YtblddkjdglliaaaGreatDoor
