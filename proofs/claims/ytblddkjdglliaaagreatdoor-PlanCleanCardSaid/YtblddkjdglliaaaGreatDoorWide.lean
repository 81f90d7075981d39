/- Contract: hash.widen. -/
import Derived.Test.YtblddkjdglliaaaGreatDoorSha
import Derived.Test.YtblddkjdglliaaaGreatDoorQTail
import Derived.Laws.CopyOwn
namespace Go.Proofs.YtblddkjdglliaaaGreatDoor
open Go.RowKit

/-- Block g is a row of these numbers. -/
def RowU (t : TypeId) (w : World) (g : Nat) (bs : List Int) : Prop := w.heap[g]? = some (.cells (ints .u32 bs).toArray t (0, 0))
theorem RowU.cell {t : TypeId} {w : World} {g : Nat} {bs : List Int} (h : RowU t w g bs) (i : Nat) (hi : i < bs.length) : w.cell? ⟨g, i, none⟩ = some (.int .u32 (bs[i]?.getD 0)) := by
  rw [cell_of_blk h, List.getElem?_toArray, ints_get _ _ _ hi]
theorem RowU.frozen {t : TypeId} {w : World} {g : Nat} {bs : List Int} (h : RowU t w g bs) (i : Nat) : w.frozen? ⟨g, i, none⟩ = false := frozen_of_blk h i
theorem RowU.set {t : TypeId} {w : World} {g : Nat} {bs : List Int} (h : RowU t w g bs) (i : Nat) (y : Int) : RowU t (w.setCell ⟨g, i, none⟩ (.int .u32 y)) g (bs.set i y) := by
  have := blk_setCell h i (.int .u32 y)
  rw [List.setIfInBounds_toArray] at this
  unfold RowU
  rw [this]
  simp [ints, List.map_set]

/-- The numbers sixteen, seven, fifteen and two places back, mixed. -/
def wmix (x3 x4 x1 x2 : Int) : Int := (x3 + x4 + bits BinOp.xor IntKind.u32 (bits BinOp.xor IntKind.u32 (rotN x1 7) (rotN x1 18)) (x1 / 8) + bits BinOp.xor IntKind.u32 (bits BinOp.xor IntKind.u32 (rotN x2 17) (rotN x2 19)) (x2 / 1024)) % 4294967296
theorem wmix_range (x3 x4 x1 x2 : Int) : 0 ≤ wmix x3 x4 x1 x2 ∧ wmix x3 x4 x1 x2 ≤ 4294967295 := by unfold wmix; omega
def wval (bs ws : List Int) (k : Nat) : Int :=
  if k < 16 then getN ((bs.drop (4 * k)).take 4) % 4294967296 else wmix (ws[k - 16]?.getD 0) (ws[k - 7]?.getD 0) (ws[k - 15]?.getD 0) (ws[k - 2]?.getD 0)
def wideK (bs : List Int) : Nat → List Int
  | 0 => List.replicate 64 0
  | k + 1 => (wideK bs k).set k (wval bs (wideK bs k) k)
theorem wideK_length (bs : List Int) (k : Nat) : (wideK bs k).length = 64 := by
  induction k with
  | zero => simp [wideK]
  | succ k ih => simp [wideK, ih]
def U32 (l : List Int) : Prop := ∀ x ∈ l, 0 ≤ x ∧ x ≤ 4294967295
theorem U32.at_ {l : List Int} (h : U32 l) (i : Nat) : 0 ≤ l[i]?.getD 0 ∧ l[i]?.getD 0 ≤ 4294967295 := by
  by_cases hi : i < l.length
  · rw [List.getElem?_eq_getElem hi]; exact h _ (List.getElem_mem hi)
  · rw [List.getElem?_eq_none (by omega)]; simp
theorem U32.set {l : List Int} (h : U32 l) (i : Nat) (y : Int) (hy : 0 ≤ y ∧ y ≤ 4294967295) : U32 (l.set i y) := by
  intro x hx
  rcases List.mem_or_eq_of_mem_set hx with h' | rfl
  · exact h x h'
  · exact hy

set_option maxRecDepth 100000 in
set_option maxHeartbeats 2000000 in
theorem widen_any (v : Value) (bs : List Int) (w : World) (h : HB w v bs) (hl : bs.length = 64) :
    Calls Tryz.prog 211 #[v] w fun e w' => e = .returned (.agg (ints .u32 (wideK bs 64)).toArray) ∧ Below w.heap.size w w' := by
  obtain ⟨A, c, rfl, hc1, hc2, hc3, hr, hA⟩ := id h
  obtain ⟨b, o, cur, fr, rfl, hbk, _⟩ := hA (by omega)
  rw [hl] at h hc1 ⊢
  have GE : ∀ (W : World), Below w.heap.size w W → ∀ k, k < 16 → Calls Tryz.prog 103 #[.slice (some ⟨b, o + 4 * k, none⟩) 4 (c - 4 * k)] W fun e w' => e = .returned (.int .u64 (getN ((bs.drop (4 * k)).take 4))) ∧ W = w' := by
    intro W hB k hk
    have := (h.below hB).sub (4 * k) (4 * k + 4) (c - 4 * k) (by omega) (by omega) (by omega) (by omega) (A' := some ⟨b, o + 4 * k, none⟩) (fun _ b' o' e => by cases e; rfl)
    rw [Nat.add_sub_cancel_left] at this
    exact get_any _ _ W this (by simp; omega)
  have GR := fun k => getN_nonneg ((bs.drop (4 * k)).take 4) (fun x hx => h.range x (List.mem_of_mem_drop (List.mem_of_mem_take hx)))
  replace GE := Lib.hid GE
  replace GR := Lib.hid GR
  clear h hA hbk hr hl
  have R7 : Hid (∀ (v : Int) (W : World), 0 ≤ v ∧ v ≤ 4294967295 → Calls Tryz.prog 229 #[.int .u32 v, .int .i64 7] W fun e w' => e = .returned (.int .u32 (rotN v 7)) ∧ ∃ m, w' = W.drewN m) := Lib.hid fun v W h => right_any v 7 W h (by omega)
  have R18 : Hid (∀ (v : Int) (W : World), 0 ≤ v ∧ v ≤ 4294967295 → Calls Tryz.prog 229 #[.int .u32 v, .int .i64 18] W fun e w' => e = .returned (.int .u32 (rotN v 18)) ∧ ∃ m, w' = W.drewN m) := Lib.hid fun v W h => right_any v 18 W h (by omega)
  have R17 : Hid (∀ (v : Int) (W : World), 0 ≤ v ∧ v ≤ 4294967295 → Calls Tryz.prog 229 #[.int .u32 v, .int .i64 17] W fun e w' => e = .returned (.int .u32 (rotN v 17)) ∧ ∃ m, w' = W.drewN m) := Lib.hid fun v W h => right_any v 17 W h (by omega)
  have R19 : Hid (∀ (v : Int) (W : World), 0 ≤ v ∧ v ≤ 4294967295 → Calls Tryz.prog 229 #[.int .u32 v, .int .i64 19] W fun e w' => e = .returned (.int .u32 (rotN v 19)) ∧ ∃ m, w' = W.drewN m) := Lib.hid fun v W h => right_any v 19 W h (by omega)
  go_enter Tryz.func211, Tryz.ntmps211
  go_wp2
  obtain ⟨Z, hZ⟩ : ∃ Z, (#[Value.int .u32 0, Value.int .u32 0, Value.int .u32 0, Value.int .u32 0, Value.int .u32 0, Value.int .u32 0, Value.int .u32 0, Value.int .u32 0, Value.int .u32 0, Value.int .u32 0, Value.int .u32 0, Value.int .u32 0, Value.int .u32 0, Value.int .u32 0, Value.int .u32 0, Value.int .u32 0, Value.int .u32 0, Value.int .u32 0, Value.int .u32 0, Value.int .u32 0, Value.int .u32 0, Value.int .u32 0, Value.int .u32 0, Value.int .u32 0, Value.int .u32 0, Value.int .u32 0, Value.int .u32 0, Value.int .u32 0, Value.int .u32 0, Value.int .u32 0, Value.int .u32 0, Value.int .u32 0, Value.int .u32 0, Value.int .u32 0, Value.int .u32 0, Value.int .u32 0, Value.int .u32 0, Value.int .u32 0, Value.int .u32 0, Value.int .u32 0, Value.int .u32 0, Value.int .u32 0, Value.int .u32 0, Value.int .u32 0, Value.int .u32 0, Value.int .u32 0, Value.int .u32 0, Value.int .u32 0, Value.int .u32 0, Value.int .u32 0, Value.int .u32 0, Value.int .u32 0, Value.int .u32 0, Value.int .u32 0, Value.int .u32 0, Value.int .u32 0, Value.int .u32 0, Value.int .u32 0, Value.int .u32 0, Value.int .u32 0, Value.int .u32 0, Value.int .u32 0, Value.int .u32 0, Value.int .u32 0] : Array Value) = Z := ⟨_, rfl⟩
  have hZ2 : Z = (ints .u32 (wideK bs 0)).toArray := by rw [← hZ]; rfl
  obtain ⟨W1, hW1⟩ : ∃ W, (w.alloc (.cells Z 205)).alloc (.cells Z 205) = W := ⟨_, rfl⟩
  rw [hZ, hW1]
  have hb1 : RowU 205 W1 w.heap.size (wideK bs 0) := by rw [← hW1, hZ2]; exact blk_alloc (heap_alloc_new w _) _
  have hb2 : RowU 205 W1 (w.heap.size + 1) (wideK bs 0) := by rw [← hW1, hZ2]; exact heap_alloc2_new w _ _
  have hB1 : Below w.heap.size w W1 := by rw [← hW1]; exact ((Below.refl _ w).alloc (Nat.le_refl _) _).alloc (by simp) _
  obtain ⟨q, hq⟩ : ∃ q, w.heap.size = q := ⟨_, rfl⟩
  rw [hq] at hb1 hb2
  have HQ := Lib.hid hq
  have HB1 := Lib.hid hb1
  have HB2 := Lib.hid hb2
  clear hZ hZ2 hW1 hb1 hb2
  rw [HQ.out]
  go_loopw [7] (fun i wr => ∃ k : Nat, k ≤ 64 ∧ i = .int .i64 k ∧ RowU 205 wr (q + 1) (wideK bs k) ∧ U32 (wideK bs k) ∧ Chg (fun j => j = q + 1) W1 wr) (fun i _ => 64 - (intOf i).toNat)
  case atStart => exact ⟨0, by omega, rfl, HB2.out, fun x hx => by simp [wideK] at hx; omega, Chg.refl _ _⟩
  case round =>
    obtain ⟨k, hk, rfl, hrow, hu, hch⟩ := hrel
    have hBr : Below w.heap.size w wr := hB1.trans (hch.to_below hB1.size (fun j e => by rw [HQ.out]; omega))
    have hsz := wideK_length bs k
    by_cases hlt : k < 64
    · have hfz := hrow.frozen k
      have hck := hrow.cell k (by rw [hsz]; exact hlt)
      by_cases h16 : k < 16
      · have GK := GE.out wr hBr k h16
        have GR1 := GR.out k
        have hw : wval bs (wideK bs k) k = getN ((bs.drop (4 * k)).take 4) % 4294967296 := by rw [wval, if_pos h16]
        have HW := Lib.hid hw
        have HROW := Lib.hid hrow
        have HU := Lib.hid hu
        clear hw hrow hu
        generalize (wideK bs k)[k]?.getD 0 = z0 at *
        generalize getN ((bs.drop (4 * k)).take 4) = x at *
        go_wp2_with fail
        refine GK.mono ?_
        rintro e w' ⟨rfl, rfl⟩
        go_wp2
        refine ⟨⟨k + 1, by omega, by go_num, ?_, ?_, hch.then_setCell (a := ⟨q + 1, k, none⟩) (.inl rfl) _⟩, by simp [intOf]; omega⟩
        · rw [wideK, HW.out]; exact HROW.out.set k _
        · rw [wideK, HW.out]; exact HU.out.set k _ (by omega)
      · obtain ⟨p1, hp1⟩ : ∃ p1, p1 = k - 15 := ⟨_, rfl⟩
        obtain ⟨p2, hp2⟩ : ∃ p2, p2 = k - 2 := ⟨_, rfl⟩
        obtain ⟨p3, hp3⟩ : ∃ p3, p3 = k - 16 := ⟨_, rfl⟩
        obtain ⟨p4, hp4⟩ : ∃ p4, p4 = k - 7 := ⟨_, rfl⟩
        have c1 := hrow.cell p1 (by omega)
        have c2 := hrow.cell p2 (by omega)
        have c3 := hrow.cell p3 (by omega)
        have c4 := hrow.cell p4 (by omega)
        have r1 := hu.at_ p1
        have r2 := hu.at_ p2
        have r3 := hu.at_ p3
        have r4 := hu.at_ p4
        have hw : wval bs (wideK bs k) k = wmix ((wideK bs k)[p3]?.getD 0) ((wideK bs k)[p4]?.getD 0) ((wideK bs k)[p1]?.getD 0) ((wideK bs k)[p2]?.getD 0) := by
          rw [wval, if_neg h16, hp1, hp2, hp3, hp4]
        have e1 : IntKind.i64.wrap ((k : Int) - 15) = (p1 : Int) := by rw [show (k : Int) - 15 = (p1 : Int) by omega]; exact IntWalk.i64_in _ (by omega)
        have e2 : IntKind.i64.wrap ((k : Int) - 2) = (p2 : Int) := by rw [show (k : Int) - 2 = (p2 : Int) by omega]; exact IntWalk.i64_in _ (by omega)
        have e3 : IntKind.i64.wrap ((k : Int) - 16) = (p3 : Int) := by rw [show (k : Int) - 16 = (p3 : Int) by omega]; exact IntWalk.i64_in _ (by omega)
        have e4 : IntKind.i64.wrap ((k : Int) - 7) = (p4 : Int) := by rw [show (k : Int) - 7 = (p4 : Int) by omega]; exact IntWalk.i64_in _ (by omega)
        have b1 : p1 < 64 := by omega
        have b2 : p2 < 64 := by omega
        have b3 : p3 < 64 := by omega
        have b4 : p4 < 64 := by omega
        have i1 : (p1 : Int) < 64 := by omega
        have i2 : (p2 : Int) < 64 := by omega
        have i3 : (p3 : Int) < 64 := by omega
        have i4 : (p4 : Int) < 64 := by omega
        have HW := Lib.hid hw
        have HROW := Lib.hid hrow
        have HU := Lib.hid hu
        clear hw hrow hu hp1 hp2 hp3 hp4 hsz
        generalize (wideK bs k)[k]?.getD 0 = z0 at *
        generalize (wideK bs k)[p1]?.getD 0 = x1 at *
        generalize (wideK bs k)[p2]?.getD 0 = x2 at *
        generalize (wideK bs k)[p3]?.getD 0 = x3 at *
        generalize (wideK bs k)[p4]?.getD 0 = x4 at *
        go_wp2
        go_quiet (fail)
        clear GE GR e1 e2 hBr hB1 HQ HB1 HB2 hlt h16 b1 b2 i1 i2
        go_wp2
        refine region_quiet_tail 29 (by kernel_rfl) (by kernel_rfl) ?_
        simp only [List.take_succ_cons, List.take_zero, List.drop_succ_cons, List.drop_zero]
        repeat (quiet_step ((go_at_call 229; first | with_reducible exact quiet_add (R7.out _ _ r1) | with_reducible exact quiet_add (R18.out _ _ r1) | with_reducible exact quiet_add (R17.out _ _ r2) | with_reducible exact quiet_add (R19.out _ _ r2))))
        refine wpQuiet_nil ?_
        intro _ hw'
        obtain ⟨nq2, hw''⟩ := hw'
        subst hw''
        go_wp2
        have hst := fun N => RowU.set (t := 205) (w := wr.drewN N) HROW.out k (wmix x3 x4 x1 x2)
        have hup := HU.out.set k (wmix x3 x4 x1 x2) (wmix_range _ _ _ _)
        refine ⟨⟨k + 1, by omega, by go_num, ?_, ?_, ?_⟩, by simp [intOf]; omega⟩
        · rw [wideK, HW.out]; exact hst _
        · rw [wideK, HW.out]; exact hup
        · exact ⟨hch.os, hch.tape, hch.output, by simpa using hch.size, fun i hi hn => (Below.heap_setCell _ _ _ i hn).trans (hch.block i hi hn)⟩
    · obtain rfl : k = 64 := by omega
      have hlen : (ints .u32 (wideK bs 64)).toArray.size = 64 := by rw [List.size_toArray, ints_length, wideK_length]
      have hi3 : (Tryz.prog.info? 205).map (·.size) = some (ints .u32 (wideK bs 64)).toArray.size := by rw [hlen]; kernel_rfl
      have hz : wr.heap[q]? = some (.cells (ints .u32 (wideK bs 0)).toArray 205 (0, 0)) := (hch.block q (blk_lt HB1.out) (by omega)).trans HB1.out
      have hone : (ints .u32 (wideK bs 64)).toArray.all (·.oneCell') = true := by
        rw [Array.all_eq_true_iff_forall_mem]
        intro x hx
        exact ints_one _ _ x (by simpa using hx)
      have hsz0 : (ints .u32 (wideK bs 0)).toArray.size = (ints .u32 (wideK bs 64)).toArray.size := by rw [hlen, List.size_toArray, ints_length, wideK_length]
      obtain ⟨cs, hcs⟩ : ∃ cs, (ints .u32 (wideK bs 64)).toArray = cs := ⟨_, rfl⟩
      unfold RowU at hrow
      rw [hcs] at hrow hi3 hone hsz0
      have HR := Lib.hid hrow
      have HZ := Lib.hid hz
      have HCS := Lib.hid hcs
      have HI3 := Lib.hid hi3
      have HONE := Lib.hid hone
      have HS0 := Lib.hid hsz0
      clear hrow hu hsz hz hone hsz0 hi3 hlen hcs
      go_wp2_with (first
        | (refine wpList_load_row rfl 205 (.tmp 3) rfl (q + 1) rfl 205 cs (0, 0) _ HR.out Tryz.underlying205 rfl HI3.out ?_)
        | (refine wpList_store_row rfl 205 (.tmp 2) (.tmp 61) rfl q cs rfl rfl 205 _ HZ.out HI3.out HS0.out HONE.out ?_))
      refine bodyPost_ret (results_cell_row rfl _ _ q 205 cs (0, 0) _ rfl (setRow_heap _ _ _ _ _ _ HZ.out) Tryz.underlying205 rfl HI3.out) rfl ?_
      rw [HCS.out]
      exact ⟨rfl, below_setRow hBr (by rw [HQ.out]; exact Nat.le_refl _) _⟩
end Go.Proofs.YtblddkjdglliaaaGreatDoor
