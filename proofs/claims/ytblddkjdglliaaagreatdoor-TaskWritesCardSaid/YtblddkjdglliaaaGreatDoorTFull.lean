/- The walk of TaskFull. Conditions: hash.turns holds its numbers; the data's cells are had. -/
import Derived.Test.YtblddkjdglliaaaGreatDoorTOthers
import Derived.Test.YtblddkjdglliaaaGreatDoorFullP
namespace Go.Proofs.YtblddkjdglliaaaGreatDoor
open Go.RowKit

/-- A task and a pool, made since w0. -/
structure SF (w0 w : World) (b p : Nat) (t : TaskM) (L : Lay) (m : PoolM) : Prop where
  below : Below w0.heap.size w0 w
  task : IsTask w b t
  pool : IsPool w p L m
  newT : w0.heap.size ≤ b
  newP : ∀ k, PFp p L k → w0.heap.size ≤ k
theorem SF.grow {w0 w w' : World} {b p : Nat} {t : TaskM} {L : Lay} {m : PoolM} (h : SF w0 w b p t L m) (hB : Below w.heap.size w w') : SF w0 w' b p t L m :=
  ⟨h.below.trans (hB.mono h.below.size), h.task.below hB, h.pool.below hB, h.newT, h.newP⟩
/-- Behind a step. -/
theorem SF.next {w0 w w' : World} {b p : Nat} {t t' : TaskM} {L L' : Lay} {m m' : PoolM} (h : SF w0 w b p t L m) (hP : IsPool w' p L' m') (hT : IsTask w' b t') (hc : Chg (fun j => j = b ∨ PFp p L j) w w') (hf : ∀ j, PFp p L' j → PFp p L j ∨ w.heap.size ≤ j) :
    SF w0 w' b p t' L' m' ∧ ∀ v xs, HI w v xs → HI w' v xs := by
  refine ⟨⟨h.below.trans (hc.to_below h.below.size ?_), hT, hP, h.newT, fun k hk => ?_⟩, fun v xs hv => hv.chg hc ?_⟩
  · rintro k (rfl | hk)
    · exact h.newT
    · exact h.newP k hk
  · rcases hf k hk with h1 | h1
    · exact h.newP k h1
    · exact Nat.le_trans h.below.size h1
  · rintro b' cur fr (rfl | hk) e
    · obtain ⟨_, _, h1, _⟩ := h.task
      rw [h1] at e; cases e
    · obtain ⟨cur', e', g1, h2⟩ := PFp_ty h.pool hk
      rw [g1] at e; cases e
      rcases h2 with h2 | h2 | h2 | h2 | h2 <;> cases h2
/-- Behind a call on the pool. -/
theorem SF.pstep {w0 w w' : World} {b p : Nat} {t : TaskM} {L L' : Lay} {m m' : PoolM} (h : SF w0 w b p t L m) (hP : IsPool w' p L' m') (hs : PStep p w w' L L') :
    SF w0 w' b p t L' m' ∧ ∀ v xs, HI w v xs → HI w' v xs :=
  h.next hP (h.task.pstep h.pool hs) (hs.chg.mono fun _ _ x => .inr x) hs.fp

theorem HS.first {w : World} {B : Nat} {v : Value} {s : StripeM} (h : HS w B v [s]) : ∃ g c u, v = .slice (some ⟨g, 0, none⟩) 1 c ∧ 1 ≤ c ∧ B ≤ g ∧ w.cell? ⟨g, 2, none⟩ = some u ∧ HI w u s.locs ∧ FreshV B u := by
  obtain ⟨A, c, rfl, h1, _, h3⟩ := h
  obtain ⟨b, cur, fr, rfl, hB, hb, hc⟩ := h3 (Nat.zero_lt_one)
  obtain ⟨u, _, _, c2, hu, hf⟩ := hc 0 (Nat.zero_lt_one)
  exact ⟨b, c, u, rfl, h1, hB, by rw [cell_of_blk hb]; exact c2, hu, hf⟩
/-- A task's object. -/
theorem SF.object {w0 w : World} {b p : Nat} {t : TaskM} {L : Lay} {m : PoolM} (h : SF w0 w b p t L m) (hl : t.strs.length ≤ 100) (hl2 : ∀ s ∈ t.strs, s.locs.length ≤ 1000) :
    Calls Tryz.prog 17 #[tptr b] w fun e w' => ∃ v', e = .returned (.agg #[.string t.okey, .int .i64 t.oid, .int .i64 t.osz, v']) ∧ HS w' w.heap.size v' t.strs ∧ Below w.heap.size w w' ∧ SF w0 w' b p t L m :=
  (object_any b t w h.task hl hl2).mono fun _ _ ⟨v, h1, h2, h3⟩ => ⟨v, h1, h2, h3, h.grow h3⟩
def kKey : ByteArray := ⟨#[107]⟩
def tF (xs : List Int) : TaskM := (newT 0 1 kKey xs).planned_ [1, 1, 1] 2 1 1 1
def locsF : List Int := targetsL weightL 16 [1, 1, 1] 3
theorem locsF_perm : locsF.Perm [0, 1, 2] := by
  have h1 : insL [1, 1, 1] = [0, 1, 2] := by rfl
  have h2 := orderL_perm weightL 16 [0, 1, 2]
  unfold locsF targetsL
  rw [h1, if_pos (by decide), List.take_of_length_le (by rw [h2.length_eq]; decide)]
  exact h2
theorem strsF (xs : List Int) (h0 : 0 < xs.length) (h16 : xs.length ≤ 16) : (tF xs).strs = [⟨16, 1, locsF⟩] := by
  show planL [1, 1, 1] 2 1 1 1 (countN 2 xs.length) = _
  have h3 : countN 2 xs.length = 1 := by
    unfold countN
    rw [if_neg (by omega), Nat.div_eq_of_lt (by omega)]
  rw [h3]
  rfl
theorem stepF (xs : List Int) (h0 : 0 < xs.length) (h16 : xs.length ≤ 16) (a : Nat) (q : Int) (m : PoolM) (ha : a < 3) : ({ tF xs with at_ := q } : TaskM).step 2 1 m a = m.store (locsF[a]?.getD 0) 16 a (shardL 2 1 xs 0 a) := by
  unfold TaskM.step TaskM.locAt
  show (if a < (tF xs).strs.length * 3 then m.store ((((tF xs).strs[a / 3]?.getD .zero).locs[a % 3]?.getD 0)) ((tF xs).strs[a / 3]?.getD .zero).id (a % 3 : Nat) (shardL 2 1 xs (a / 3) (a % 3)) else _) = _
  rw [strsF xs h0 h16, if_pos (by simpa using ha), Nat.div_eq_of_lt ha, Nat.mod_eq_of_lt ha]
  rfl
theorem readyF (xs : List Int) (h16 : xs.length ≤ 16) (q : Int) : Ready ({ tF xs with at_ := q } : TaskM) 2 1 := by
  have h := ready_planned (newT 0 1 kKey xs) [1, 1, 1] 2 1 1 1 rfl (by show xs.length ≤ 96; omega) (by decide) (by decide) (.inr (by decide))
  exact ⟨h.op, h.planned, h.count, h.few, h.locs, h.ids⟩

def tFk (xs : List Int) (k : Nat) : TaskM := { tF xs with at_ := (k : Int) }
theorem nextF_store {w0 w : World} {b p : Nat} {L : Lay} {m : PoolM} {xs : List Int} {k : Nat} (hx0 : 0 < xs.length) (hx : xs.length ≤ 16) (h : SF w0 w b p (tFk xs k) L m) (hF : FullI locsF m k) (hk : k < 3) (hne : locsF[k]?.getD 0 ≠ 1) :
    Calls Tryz.prog 20 #[tptr b, pptr p, .int .i64 2, .int .i64 1] w fun e w' => ∃ L' m', e = .returned (.tuple #[.bool false, .int .i64 0]) ∧ SF w0 w' b p (tFk xs (k + 1)) L' m' ∧ FullI locsF m' (k + 1) ∧ ∀ v ys, HI w v ys → HI w' v ys := by
  have NX := next_store b p (tFk xs k) L m 2 1 k w h.task h.pool hF.room (by decide) (by decide) (by decide) (readyF xs hx _) rfl (by show k < (tF xs).strs.length * 3; rw [strsF xs hx0 hx]; simpa using hk)
  obtain ⟨s1, s2⟩ := hF.step locsF_perm hk hne (shardL 2 1 xs 0 k) (by rw [shardL_len 2 1 xs 0 k (by omega)]; decide)
  rw [show (tFk xs k).step 2 1 m k = m.store (locsF[k]?.getD 0) 16 k (shardL 2 1 xs 0 k) from stepF xs hx0 hx k _ m hk, s1] at NX
  refine NX.mono fun e w' ⟨L', h1, h2, h3, h4, h5⟩ => ?_
  rw [if_pos rfl] at h3
  obtain ⟨g1, g2⟩ := h.next h2 h3 h4 h5
  exact ⟨L', _, h1, g1, s2, g2⟩
theorem nextF_full {w0 w : World} {b p : Nat} {L : Lay} {m : PoolM} {xs : List Int} {k : Nat} (hx0 : 0 < xs.length) (hx : xs.length ≤ 16) (h : SF w0 w b p (tFk xs k) L m) (hF : FullI locsF m k) (hk : k < 3) (hne : locsF[k]? = some 1) :
    Calls Tryz.prog 20 #[tptr b, pptr p, .int .i64 2, .int .i64 1] w fun e w' => ∃ L', e = .returned (.tuple #[.bool false, .int .i64 3]) ∧ SF w0 w' b p (tFk xs k) L' m := by
  have NX := next_store b p (tFk xs k) L m 2 1 k w h.task h.pool hF.room (by decide) (by decide) (by decide) (readyF xs hx _) rfl (by show k < (tF xs).strs.length * 3; rw [strsF xs hx0 hx]; simpa using hk)
  rw [show (tFk xs k).step 2 1 m k = m.store (locsF[k]?.getD 0) 16 k (shardL 2 1 xs 0 k) from stepF xs hx0 hx k _ m hk, hne, show (some (1 : Int)).getD 0 = 1 from rfl, hF.full] at NX
  refine NX.mono fun e w' ⟨L', h1, h2, h3, h4, h5⟩ => ?_
  rw [if_neg (by show ¬ (3 : Int) = 0; decide)] at h3
  exact ⟨L', h1, (h.next h2 h3 h4 h5).1⟩
theorem nextF_again {w0 w : World} {b p : Nat} {L : Lay} {m m2 : PoolM} {xs : List Int} {k : Nat} (hx0 : 0 < xs.length) (hx : xs.length ≤ 16) (h : SF w0 w b p (tFk xs k) L m) (hr : m.room) (hk : k < 3) (hne : locsF[k]? = some 1) (hs : m.store 1 16 k (shardL 2 1 xs 0 k) = (0, m2)) :
    Calls Tryz.prog 20 #[tptr b, pptr p, .int .i64 2, .int .i64 1] w fun e w' => ∃ L' t', e = .returned (.tuple #[.bool false, .int .i64 0]) ∧ SF w0 w' b p t' L' m2 := by
  have NX := next_store b p (tFk xs k) L m 2 1 k w h.task h.pool hr (by decide) (by decide) (by decide) (readyF xs hx _) rfl (by show k < (tF xs).strs.length * 3; rw [strsF xs hx0 hx]; simpa using hk)
  rw [show (tFk xs k).step 2 1 m k = m.store (locsF[k]?.getD 0) 16 k (shardL 2 1 xs 0 k) from stepF xs hx0 hx k _ m hk, hne, show (some (1 : Int)).getD 0 = 1 from rfl, hs] at NX
  exact NX.mono fun e w' ⟨L', h1, h2, h3, h4, h5⟩ => ⟨L', _, h1, (h.next h2 h3 h4 h5).1⟩

set_option maxRecDepth 100000 in
set_option maxHeartbeats 2000000 in
theorem taskFull_walk (A : Option Addr) (n c : Nat) (tr : Int) (xs : List Int) (w : World) (hT : Turns w) (htr : 0 ≤ tr ∧ tr ≤ 255) (hx : Handed w A n xs) :
    Calls Tryz.prog 6 #[.slice A n c, .int .u8 tr] w fun e w' => e = .returned (.bool true) ∧ Below w.heap.size w w' := by
  have HT := Lib.hid hT
  have HX := Lib.hid hx
  have hxl := hx.1
  clear hT hx
  have AN := Lib.hid (answers_any w HT.out)
  by_cases h0 : n = 0
  · have d0 : ((n : Int) == 0) = true := by simp [h0]
    go_enter Tryz.func6, Tryz.ntmps6
    go_wp2_with fail
    refine AN.out.mono ?_
    rintro e w' ⟨rfl, hB⟩
    go_wp2
    go_ret
    exact ⟨rfl, hB⟩
  have d0 : ((n : Int) == 0) = false := by simp; omega
  by_cases hbig : 16 < n
  · have d1 : decide (16 < (n : Int)) = true := decide_eq_true (by omega)
    go_enter Tryz.func6, Tryz.ntmps6
    go_wp2_with fail
    refine AN.out.mono ?_
    rintro e w' ⟨rfl, hB⟩
    go_wp2
    go_ret
    exact ⟨rfl, hB⟩
  have d1 : decide (16 < (n : Int)) = false := decide_eq_false (by omega)
  clear AN
  go_enter Tryz.func6, Tryz.ntmps6
  go_wp2_with fail
  refine (pnew_any w).mono ?_
  rintro e w1 ⟨rfl, hP1, hB1⟩
  obtain ⟨p, hp⟩ : ∃ p, w.heap.size = p := ⟨_, rfl⟩
  rw [hp] at hP1 ⊢
  have hpw : w.heap.size ≤ p := by omega
  unfold pptr
  have HP1 := Lib.hid hP1
  clear hP1 hp
  go_wp2_with fail
  refine (padd_any p _ ⟨[], -1, false⟩ 1 w1 HP1.out).mono ?_
  rintro e w2 ⟨L2, rfl, hP2, hs2⟩
  change IsPool w2 p L2 ⟨[newD 1], -1, false⟩ at hP2
  replace hP2 := Lib.hid hP2
  replace hs2 := Lib.hid hs2
  go_wp2_with fail
  refine (padd_any p _ ⟨[newD 1], -1, false⟩ 1 w2 hP2.out).mono ?_
  rintro e w3 ⟨L3, rfl, hP3, hs3⟩
  change IsPool w3 p L3 ⟨[newD 1, newD 1], -1, false⟩ at hP3
  replace hP3 := Lib.hid hP3
  replace hs3 := Lib.hid hs3
  go_wp2_with fail
  refine (padd_any p _ ⟨[newD 1, newD 1], -1, false⟩ 1 w3 hP3.out).mono ?_
  rintro e w4 ⟨L4, rfl, hP4, hs4⟩
  change IsPool w4 p L4 ⟨[newD 1, newD 1, newD 1], -1, false⟩ at hP4
  replace hP4 := Lib.hid hP4
  replace hs4 := Lib.hid hs4
  obtain ⟨m5, hst, hF0⟩ := full_zero locsF
  have ST := pstore_any p L4 ⟨[newD 1, newD 1, newD 1], -1, false⟩ 1 9999 0 (.slice none 0 0) [] w4 hP4.out (by intro d hd; simp at hd; subst hd; decide) (by decide) (by decide) (by decide) (by decide) (HB.nil _) (by decide)
  rw [hst] at ST
  replace ST := Lib.hid ST
  unfold pptr at ST
  go_wp2_with fail
  refine ST.out.mono ?_
  rintro e w5 ⟨L5, rfl, hP5, hs5⟩
  have hsAll := ((hs2.out.trans hs3.out).trans hs4.out).trans hs5
  have hBw5 : Below w.heap.size w w5 := hB1.trans (hsAll.chg.to_below hB1.size (by
    rintro k (rfl | hk | ⟨x, hx, -⟩)
    · exact hpw
    · simp [Value.ownBlock] at hk
    · simp at hx))
  have hL5 : ∀ k, PFp p L5 k → w.heap.size ≤ k := by
    intro k hk
    rcases hsAll.fp k hk with (rfl | hk | ⟨x, hx, _⟩) | h
    · exact hpw
    · simp [Value.ownBlock] at hk
    · simp at hx
    · exact Nat.le_trans hB1.size h
  replace hP5 := Lib.hid hP5
  have hck1 : checkN 1 (⟨#[107]⟩ : ByteArray).size n = 0 := by
    show (if (1 : Int) < 1 ∨ 4 < 1 then (1 : Int) else if (1 : Int) ≠ 4 ∧ ((⟨#[107]⟩ : ByteArray).size < 1 ∨ 16 < (⟨#[107]⟩ : ByteArray).size) then 5 else if (1 : Int) = 1 ∧ 96 < n then 4 else 0) = 0
    rw [if_neg (by omega), if_neg (by decide), if_neg (by omega)]
  clear hs2 hs3 hs4 hs5 hsAll hP2 hP3 hP4 ST hst hB1 HP1
  go_wp2_with fail
  refine (new_handed 0 1 ⟨#[107]⟩ A n c xs w5 (HX.out.below hBw5) (by omega) hck1).mono ?_
  rintro e w6 ⟨b, rfl, hX6, hbx, hB6⟩
  have hbw : w.heap.size ≤ b := Nat.le_trans hBw5.size hbx
  have hBw6 := hBw5.trans (hB6.mono hBw5.size)
  have hP6 := Lib.hid (hP5.out.below hB6)
  replace hX6 := Lib.hid hX6
  unfold tptr
  clear hP5 hB6 hbx hck1
  go_wp2_with fail
  obtain ⟨W7, hW7⟩ : ∃ W, w6.alloc (.cells #[.int .i64 1, .int .i64 1, .int .i64 1] 3) = W := ⟨_, rfl⟩
  have hb7 : W7.heap[w6.heap.size]? = some (.cells #[.int .i64 1, .int .i64 1, .int .i64 1] 3 (0, 0)) := by rw [← hW7]; exact heap_alloc_new w6 _
  have hB7 : Below w6.heap.size w6 W7 := by rw [← hW7]; exact (Below.refl _ _).alloc (Nat.le_refl _) _
  rw [hW7]
  clear hW7
  have hBw7 := hBw6.trans (hB7.mono hBw6.size)
  have hHC : HC W7 (.slice (some ⟨w6.heap.size, 0, none⟩) 3 3) [1, 1, 1] := ⟨_, 3, rfl, by decide, by decide, fun _ => ⟨_, 0, rfl, fun i hi => by
    have : i < 3 := hi
    match i, this with
    | 0, _ => rw [cell_of_blk hb7]; rfl
    | 1, _ => rw [cell_of_blk hb7]; rfl
    | 2, _ => rw [cell_of_blk hb7]; rfl⟩⟩
  refine (plan_any b (newT 0 1 ⟨#[107]⟩ xs) 2 1 1 1 _ [1, 1, 1] W7 (hX6.out.below hB7) rfl hHC (by decide) (by decide) (by decide) (by decide) (by decide) (by show xs.length ≤ 96; omega) (HT.out.below hBw7)).mono ?_
  rintro e w8 (⟨-, rfl, hT8, hch8⟩ | ⟨hno, -, -⟩)
  case inr => exact absurd (.inr (by decide)) hno
  change IsTask w8 b (tF xs) at hT8
  have S8 : SF w w8 b p (tF xs) L5 m5 := ⟨hBw7.trans (hch8.to_below hBw7.size (by rintro k rfl; exact hbw)), hT8, (hP6.out.below hB7).task (hX6.out.below hB7) hch8, hbw, hL5⟩
  replace S8 := Lib.hid S8
  clear hT8 hch8 hHC hb7 hB7 hBw7 hX6 hP6 hBw6
  have r3 := run_obj3
  have hstr := strsF xs (by omega) (by omega)
  have hsl : (tF xs).strs.length ≤ 100 := by rw [hstr]; decide
  have hll : locsF.length = 3 := locsF_perm.length_eq
  have hsl2 : ∀ s ∈ (tF xs).strs, s.locs.length ≤ 1000 := by
    rw [hstr]; intro s hs; simp at hs; subst hs
    show locsF.length ≤ 1000
    omega
  have OB8 := S8.out.object hsl hsl2
  unfold tptr at OB8
  rw [hstr] at OB8
  replace OB8 := Lib.hid OB8
  replace hstr := Lib.hid hstr
  replace hll := Lib.hid hll
  replace hsl2 := Lib.hid hsl2
  go_wp2_with fail
  refine OB8.out.mono ?_
  rintro e w9 ⟨v9, rfl, hS9, -, S9⟩
  obtain ⟨g9, c9, u9, rfl, -⟩ := hS9.first
  have OB9 := S9.object hsl hsl2.out
  unfold tptr at OB9
  rw [hstr.out] at OB9
  replace OB9 := Lib.hid OB9
  clear hS9 S9 OB8 S8
  go_wp2_with fail
  refine OB9.out.mono ?_
  rintro e w10 ⟨v10, rfl, hS10, -, S10⟩
  obtain ⟨g10, c10, u10, rfl, hc10, -, m10, hu10, -⟩ := hS10.first
  obtain ⟨X10, x10, y10, rfl⟩ := hu10.shape
  obtain ⟨hx10, -⟩ := hu10.toC.cell
  rw [show ((⟨16, 1, locsF⟩ : StripeM)).locs = locsF from rfl, hll.out] at hx10
  subst hx10
  have OB10 := S10.object hsl hsl2.out
  unfold tptr at OB10
  rw [hstr.out] at OB10
  replace OB10 := Lib.hid OB10
  clear hS10 S10 OB9 hu10
  go_wp2_with fail
  refine OB10.out.mono ?_
  rintro e w11 ⟨v11, rfl, hS11, -, S11⟩
  obtain ⟨g11, c11, u11, rfl, hc11, -, m11, hu11, -⟩ := hS11.first
  obtain ⟨X11, x11, y11, rfl⟩ := hu11.shape
  change HI w11 _ locsF at hu11
  obtain ⟨hx11, -, hxc⟩ := hu11.toC.cell
  rw [hll.out] at hx11
  subst hx11
  obtain ⟨lb, lo, rfl, -⟩ := hxc 0 (by decide)
  replace S11 := Lib.hid S11
  replace hu11 := Lib.hid hu11
  clear hS11 OB10 hxc
  obtain ⟨-, hnd, hmem, r, hr3, hr1⟩ := sum_count locsF_perm
  have hru : ∀ k, k < r → locsF[k]?.getD 0 ≠ 1 := by
    intro k hk e
    have hk3 : k < locsF.length := by rw [hll.out]; omega
    have hr3' : r < locsF.length := by rw [hll.out]; omega
    rw [List.getElem?_eq_getElem hk3] at e
    rw [List.getElem?_eq_getElem hr3'] at hr1
    have := (List.getElem_inj hnd).1 ((show locsF[k] = 1 from e).trans (Option.some.inj hr1).symm)
    omega
  replace hru := Lib.hid hru
  replace hr1 := Lib.hid hr1
  replace hF0 := Lib.hid hF0
  clear hnd hmem
  go_wp2_with fail
  obtain ⟨T, hTT⟩ : ∃ T : Nat, tr % 4 + 1 = (T : Int) := ⟨(tr % 4 + 1).toNat, by omega⟩
  have hT4 : T ≤ 4 := by omega
  have hxp := Lib.hid (show 0 < xs.length by omega)
  have hx16 := Lib.hid (show xs.length ≤ 16 by omega)
  replace hxl := Lib.hid hxl
  replace hTT := Lib.hid hTT
  go_loopw [8] (fun i wr => ∃ (k : Nat) (L : Lay) (m : PoolM), k ≤ r ∧ i = .int .i64 k ∧ SF w wr b p (tFk xs k) L m ∧ FullI locsF m k ∧ HI wr (.slice (some ⟨lb, lo, none⟩) 3 y11) locsF) (fun i _ => r + 1 - (intOf i).toNat)
  case atStart => exact ⟨0, L5, m5, Nat.zero_le _, rfl, S11.out, hF0.out, hu11.out⟩
  case round =>
    obtain ⟨k, L, m, hk, rfl, S, hF, hl⟩ := hrel
    have hk3 : k < 3 := by omega
    have hkI : (k : Int) < 3 := by omega
    obtain ⟨-, -, hc⟩ := hl.toC.cell
    obtain ⟨b8, o8, e, mk⟩ := hc k hk3
    cases e
    replace S := Lib.hid S
    replace hF := Lib.hid hF
    replace hl := Lib.hid hl
    clear hc
    by_cases hlt : k < r
    · have hne := hru.out k hlt
      have NX := nextF_store hxp.out hx16.out S.out hF.out hk3 hne
      unfold tptr pptr at NX
      replace NX := Lib.hid NX
      generalize locsF[k]?.getD 0 = y at *
      have hy : (y != 1) = true := by simpa using hne
      go_wp2_with fail
      refine NX.out.mono ?_
      rintro e w12 ⟨L', m', rfl, S', hF', hl'⟩
      replace S' := Lib.hid S'
      replace hF' := Lib.hid hF'
      have hl2 := Lib.hid (hl' _ _ hl.out)
      clear hl'
      go_wp2_with fail
      exact ⟨⟨k + 1, L', m', by omega, by go_num, S'.out, hF'.out, hl2.out⟩, by simp [intOf]; omega⟩
    · obtain rfl : k = r := by omega
      rw [hr1.out] at mk
      simp only [Option.getD_some] at mk
      go_wp2_with fail
      go_loopw [11] (fun i wr => ∃ (j : Nat) (L : Lay), j ≤ T ∧ i = .int .i64 j ∧ SF w wr b p (tFk xs k) L m) (fun i _ => T - (intOf i).toNat)
      case atStart => exact ⟨0, L, Nat.zero_le _, rfl, S.out⟩
      case round =>
        obtain ⟨j, L', hj, rfl, S'⟩ := hrel
        replace S' := Lib.hid S'
        have hT2 := hTT.out
        by_cases hlj : j < T
        · have NX := nextF_full hxp.out hx16.out S'.out hF.out hk3 hr1.out
          unfold tptr pptr at NX
          replace NX := Lib.hid NX
          go_wp2_with fail
          refine NX.out.mono ?_
          rintro e w12 ⟨L2', rfl, S2⟩
          replace S2 := Lib.hid S2
          go_wp2_with fail
          exact ⟨⟨j + 1, L2', by omega, by go_num, S2.out⟩, by simp [intOf]; omega⟩
        · obtain rfl : j = T := by omega
          obtain ⟨m2, he, hroom, hag⟩ := hF.out.again
          obtain ⟨m3, hs3, hh3⟩ := hag k (shardL 2 1 xs 0 k) (by rw [shardL_len 2 1 xs 0 k (by omega)]; decide)
          have ER := perase_any p L' m 1 9999 0 wr S'.out.pool hF.out.room
          rw [he] at ER
          unfold pptr at ER
          replace ER := Lib.hid ER
          go_wp2_with fail
          refine ER.out.mono ?_
          rintro e w13 ⟨L4', rfl, hP13, hs13⟩
          obtain ⟨S13, -⟩ := S'.out.pstep hP13 hs13
          have NX := nextF_again hxp.out hx16.out S13 hroom hk3 hr1.out hs3
          unfold tptr pptr at NX
          replace NX := Lib.hid NX
          clear hP13 hs13 S13 ER
          go_wp2_with fail
          refine NX.out.mono ?_
          rintro e w14 ⟨L6', t6', rfl, S14⟩
          have AN := answers_any w14 (HT.out.below S14.below)
          replace AN := Lib.hid AN
          replace S14 := Lib.hid S14
          go_wp2_with fail
          refine AN.out.mono ?_
          rintro e w15 ⟨rfl, hB15⟩
          have S15 := S14.out.grow hB15
          have HE := pheld_any p L6' m3 1 w15 S15.pool
          rw [hh3] at HE
          unfold pptr at HE
          replace HE := Lib.hid HE
          replace S15 := Lib.hid S15
          go_wp2_with fail
          refine HE.out.mono ?_
          rintro e w16 ⟨v16, rfl, ho16, -, hB16⟩
          obtain ⟨A16, c16, rfl, -, -⟩ := own_shape ho16
          go_wp2
          go_ret
          exact ⟨rfl, (S15.out.grow hB16).below⟩
end Go.Proofs.YtblddkjdglliaaaGreatDoor
