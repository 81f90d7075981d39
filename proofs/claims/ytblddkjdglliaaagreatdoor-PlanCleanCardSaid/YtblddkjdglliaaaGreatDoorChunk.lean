/- Contracts: slices.Chunk at []byte and its iterator, slices.AppendSeq, slices.Collect at [][]byte, rs.parts, stripe.Count, stripe.Split. Conditions: the slice's length is so many parts' length. -/
import Derived.Test.YtblddkjdglliaaaGreatDoorPoolH
import Derived.RangeFuncBox
import Derived.RangeFuncNested
import Derived.RangeFuncBound
import Derived.RangeFuncCalls
import Derived.RangeFuncLeaves
import Derived.OwnWalkIn
import Derived.TacticsInMore
import Derived.LoopNIn
import Derived.LoopIn
import Derived.Sort.QuietIn
import Derived.Deep.Onto
namespace Go.Proofs.YtblddkjdglliaaaGreatDoor
open Go.RowKit

attribute [local go_sem] Oper.semAt_some

abbrev SV := Option Addr × Nat × Nat
def SV.val (x : SV) : Value := .slice x.1 x.2.1 x.2.2
/-- The parts of a slice that begins at o in block b: cnt of m elements each. -/
def partsOf (b o m cnt : Nat) : List SV := (List.range cnt).map fun j => (some ⟨b, o + j * m, none⟩, m, m)
theorem partsOf_length (b o m cnt : Nat) : (partsOf b o m cnt).length = cnt := by simp [partsOf]
/-- The blocks of S hold what they held. -/
def Kp (B : Nat) (S : Nat → Prop) (W W' : World) : Prop := ∀ k, k < B → S k → W'.heap[k]? = W.heap[k]?

set_option maxRecDepth 100000 in
set_option maxHeartbeats 1000000 in
theorem chunk_any (v : Value) (m : Int) (w : World) (hm : 1 ≤ m) (hv : ∃ A n c, v = .slice A n c) :
    Calls Tryz.prog 135 #[v, .int .i64 m] w fun e w' => e = .returned (.func (.func 166) #[] #[.pointer (some ⟨w.heap.size, 0, none⟩), .pointer (some ⟨w.heap.size + 1, 0, none⟩)]) ∧ w' = (w.alloc (.cells #[v] 22)).alloc (.cells #[.int .i64 m] 3) := by
  obtain ⟨A, n, c, rfl⟩ := hv
  go_enter Tryz.func135, Tryz.ntmps135
  go_wp2
  go_ret
  exact ⟨rfl, rfl⟩

set_option maxRecDepth 100000 in
set_option maxHeartbeats 1000000 in
theorem chunk1_in (n : Nat) (hn : 1 ≤ n) (l b1 b2 b o m cnt cap : Nat) (A : Option Addr) (B : Nat) (S : Nat → Prop) (hS1 : S b1) (hS2 : S b2) (hB1 : b1 < B) (hB2 : b2 < B)
    (hm : 1 ≤ m) (hmm : m ≤ 60000) (hcm : cnt * m ≤ 60000) (hcap : cnt * m ≤ cap) (_hcap2 : cap ≤ 9223372036854775807) (hA : 0 < cnt → A = some ⟨b, o, none⟩) (J Jx : List SV → World → Prop) (W : World) (hJa : AbidesFrom W.heap.size J)
    (hY : ∀ pre x W, J pre W → pre.length < cnt → YieldAt Fence.wide (n - 1) Tryz.prog l #[x.val] W fun e W' =>
      (e = .returned (.bool true) ∧ J (pre ++ [x]) W' ∧ Kp B S W W') ∨ (e = .returned (.bool false) ∧ Jx (pre ++ [x]) W'))
    (h1 : W.heap[b1]? = some (.cells #[.slice A (cnt * m) cap] 22 (0, 0))) (h2 : W.heap[b2]? = some (.cells #[.int .i64 m] 3 (0, 0))) (h0 : J [] W) :
    CallsIn Fence.wide n Tryz.prog 166 #[.func (.yield l) #[] #[], .pointer (some ⟨b1, 0, none⟩), .pointer (some ⟨b2, 0, none⟩)] W fun e W' => (∃ v, e = .returned v) ∧
      ((∃ ys, ys = partsOf b o m cnt ∧ J ys W') ∨ (∃ pre, pre <+: partsOf b o m cnt ∧ Jx pre W')) := by
  refine callsIn_of_wp Tryz.func166 rfl trivial ?_ rfl
  simp only [Tryz.ntmps166, List.size_toArray, List.length_cons, List.length_nil, Nat.reduceAdd, Nat.reduceSub, Array.replicate_succ, Array.replicate_zero, List.push_toArray, List.append_toArray, List.nil_append, List.cons_append]
  generalize hq : cnt * m = q at *
  have HQ := Lib.hid hq
  clear hq
  gi_wp2
  gi_loopw [4] (fun i wr => ∃ j p : Nat, j ≤ cnt ∧ p = j * m ∧ i = .int .i64 p ∧ wr.heap[b1]? = some (.cells #[.slice A q cap] 22 (0, 0)) ∧ wr.heap[b2]? = some (.cells #[.int .i64 m] 3 (0, 0)) ∧ J ((partsOf b o m cnt).take j) wr) (fun i _ => q + m - (intOf i).toNat)
  case atStart => exact ⟨0, 0, by omega, by simp, rfl, h1, h2, by simpa using h0⟩
  case round =>
    obtain ⟨j, p, hj, hp, rfl, k1, k2, hJ⟩ := hrel
    have HP := Lib.hid hp
    clear hp
    have c1 : wr.cell? ⟨b1, 0, none⟩ = some (.slice A q cap) := by rw [cell_of_blk k1]; rfl
    have c2 : wr.cell? ⟨b2, 0, none⟩ = some (.int .i64 m) := by rw [cell_of_blk k2]; rfl
    have K1 := Lib.hid k1
    have K2 := Lib.hid k2
    clear k1 k2
    by_cases hlt : j < cnt
    · have hpm : p + m ≤ q := by
        have e1 := HP.out; have e2 := HQ.out
        have : (j + 1) * m ≤ cnt * m := Nat.mul_le_mul_right m hlt
        rw [Nat.succ_mul] at this
        omega
      have hA' := hA (by omega)
      subst hA'
      have e1 : min (m : Int) ((q - p : Nat) : Int) = m := by omega
      have hJd : ∀ nq, J ((partsOf b o m cnt).take j) (wr.drewN nq) := fun nq => hJa _ _ _ none hJ ⟨rfl, rfl, rfl, Nat.le_refl _, fun _ _ _ => rfl⟩ (by simp)
      have HJd := Lib.hid hJd
      have hY' := fun nq => hY ((partsOf b o m cnt).take j) (some ⟨b, o + p, none⟩, m, m) (wr.drewN nq) (HJd.out nq) (by rw [List.length_take, partsOf_length]; omega)
      have HY := Lib.hid hY'
      have hts : (partsOf b o m cnt).take (j + 1) = (partsOf b o m cnt).take j ++ [(some ⟨b, o + p, none⟩, m, m)] := by
        rw [take_snoc _ j (by rw [partsOf_length]; exact hlt) (none, 0, 0), HP.out]
        simp [partsOf, hlt]
      have HTS := Lib.hid hts
      clear hY hJ hY' hts hJd
      gi_wp2
      gi_quiet (fail)
      rename_i nq
      obtain ⟨fn, tmps, assign, body, hy, hR⟩ := HY.out nq
      simp only [SV.val] at hy
      gi_wp2
      refine hR.mono ?_
      rintro e W3 (⟨rfl, hJ3, hk3⟩ | ⟨rfl, hJx3⟩)
      · have k1 : W3.heap[b1]? = some (.cells #[.slice (some ⟨b, o, none⟩) q cap] 22 (0, 0)) := (hk3 b1 hB1 hS1).trans K1.out
        have k2 : W3.heap[b2]? = some (.cells #[.int .i64 m] 3 (0, 0)) := (hk3 b2 hB2 hS2).trans K2.out
        have d2 : W3.cell? ⟨b2, 0, none⟩ = some (.int .i64 m) := by rw [cell_of_blk k2]; rfl
        have L1 := Lib.hid k1
        have L2 := Lib.hid k2
        clear k1 k2
        gi_wp2
        go_roundw
        case rel => exact ⟨j + 1, p + m, by omega, by rw [Nat.succ_mul, HP.out], by go_num, L1.out, L2.out, by rw [HTS.out]; exact hJ3⟩
        case measure => simp [intOf]; omega
      · gi_wp2
        refine bodyPost_ret (results_none rfl _ _ _) rfl ?_
        exact ⟨⟨_, rfl⟩, .inr ⟨(partsOf b o m cnt).take (j + 1), List.take_prefix _ _, by rw [HTS.out]; exact hJx3⟩⟩
    · have hjc : j = cnt := by omega
      subst hjc
      have hpq : p = q := by rw [HP.out, HQ.out]
      subst hpq
      rw [List.take_of_length_le (by rw [partsOf_length]; omega)] at hJ
      gi_wp2
      go_end0
      exact ⟨⟨_, rfl⟩, .inl ⟨_, rfl, hJ⟩⟩

theorem Kp.trans {B : Nat} {S : Nat → Prop} {X Y Z : World} (h : Kp B S X Y) (k : Kp B S Y Z) : Kp B S X Z := fun i hi hs => (k i hi hs).trans (h i hi hs)
theorem Kp.refl (B : Nat) (S : Nat → Prop) (X : World) : Kp B S X X := fun _ _ _ => rfl
theorem Kp.book {B : Nat} {S : Nat → Prop} {w : World} (hn : B ≤ w.heap.size) (W : World) (l : Nat) (o o' : Obj) (hl : w.heap.size ≤ l) (_ : W.heap[l]? = some o) (_ : o.isCells = false) (_ : o.isWalk = false) : Kp B S W (W.putObj l o') :=
  fun _ hk _ => World.putObj_heap_other (by omega)
theorem Kp.of_below {B : Nat} {S : Nat → Prop} {X Y : World} (h : Below B X Y) : Kp B S X Y := fun i hi _ => h.block i hi

theorem chunk_stops (n : Nat) (hn : 1 ≤ n) (b1 b2 b o m cnt cap : Nat) (A : Option Addr) (B : Nat) (S : Nat → Prop) (hS1 : S b1) (hS2 : S b2) (hB1 : b1 < B) (hB2 : b2 < B) (w : World) (hBw : B ≤ w.heap.size)
    (hm : 1 ≤ m) (hmm : m ≤ 60000) (hcm : cnt * m ≤ 60000) (hcap : cnt * m ≤ cap) (hcap2 : cap ≤ 9223372036854775807) (hA : 0 < cnt → A = some ⟨b, o, none⟩)
    (h1 : w.heap[b1]? = some (.cells #[.slice A (cnt * m) cap] 22 (0, 0))) (h2 : w.heap[b2]? = some (.cells #[.int .i64 m] 3 (0, 0))) :
    SeqStopsK Fence.wide n Tryz.prog 166 #[.pointer (some ⟨b1, 0, none⟩), .pointer (some ⟨b2, 0, none⟩)] (fun x : SV => #[x.val]) (Kp B S) (fun ys => ys = partsOf b o m cnt) (fun pre => pre <+: partsOf b o m cnt) cnt w := by
  intro l J Jx W hW hJ _ hY h0
  exact chunk1_in n hn l b1 b2 b o m cnt cap A B S hS1 hS2 hB1 hB2 hm hmm hcm hcap hcap2 hA J Jx W hJ hY ((hW.block b1 (by omega)).trans h1) ((hW.block b2 (by omega)).trans h2) h0

theorem info_rows : (Tryz.prog.info? 22).map (fun i => (i.zero, i.size, i.bytes)) = some (some (.slice none 0 0), 1, 24) := by kernel_rfl

set_option maxRecDepth 100000 in
set_option maxHeartbeats 2000000 in
theorem appendSeq_any (b1 b2 b o m cnt cap : Nat) (A : Option Addr) (w : World) (hB1 : b1 < w.heap.size) (hB2 : b2 < w.heap.size)
    (hm : 1 ≤ m) (hmm : m ≤ 60000) (hcm : cnt * m ≤ 60000) (hcap : cnt * m ≤ cap) (hcap2 : cap ≤ 9223372036854775807) (hA : 0 < cnt → A = some ⟨b, o, none⟩)
    (h1 : w.heap[b1]? = some (.cells #[.slice A (cnt * m) cap] 22 (0, 0))) (h2 : w.heap[b2]? = some (.cells #[.int .i64 m] 3 (0, 0))) :
    Calls Tryz.prog 165 #[.slice none 0 0, .func (.func 166) #[] #[.pointer (some ⟨b1, 0, none⟩), .pointer (some ⟨b2, 0, none⟩)]] w fun e W' =>
      ∃ v, e = .returned v ∧ W'.ownsRow w.heap.size 22 1 v cnt ((partsOf b o m cnt).map SV.val) ∧ Below w.heap.size w W' := by
  obtain ⟨i0, hi, hz0, hz1, hz2⟩ := info_parts info_rows
  have hcnt : cnt ≤ 60000 := Nat.le_trans (Nat.le_mul_of_pos_right cnt hm) hcm
  refine (callsIn_wide (n := 3)).1 ?_
  refine callsIn_of_wp_marks Tryz.func165 rfl trivial ?_ rfl
  simp only [Tryz.ntmps165, List.size_toArray, List.length_cons, List.length_nil, Nat.reduceAdd, Nat.reduceSub, Array.replicate_succ, Array.replicate_zero, List.push_toArray, List.append_toArray, List.nil_append, List.cons_append]
  gi_wp2
  have bO := Boxed.new w 63 (.slice none 0 0)
  have hB0 : Below w.heap.size w (w.alloc (.cells #[.slice none 0 0] 63)) := (Below.refl _ w).alloc (Nat.le_refl _) _
  refine wpIn_rangeFunc_ownG rfl (by omega) (gf := 166) (lb := #[.pointer (some ⟨b1, 0, none⟩), .pointer (some ⟨b2, 0, none⟩)]) rfl trivial (enters_of Tryz.func166 (by kernel_rfl) rfl)
    (chunk_stops 2 (by omega) b1 b2 b o m cnt cap A w.heap.size (fun _ => True) trivial trivial hB1 hB2 _ (by simp) hm hmm hcm hcap hcap2 hA ((hB0.block b1 hB1).trans h1) ((hB0.block b2 hB2).trans h2)) Kp.trans (Kp.book (by simp)) (Below.refl _ _) (fun _ => rfl)
    (fun pre W => (∃ v, Boxed W w.heap.size 63 v ∧ W.ownsRow w.heap.size 22 1 v pre.length (pre.map SV.val) ∧ (v = .slice none 0 0 ↔ pre = [])) ∧ Below w.heap.size w W)
    (fun _ _ _ => False)
    (OwnFrom.and (Own.from (holdsRow_own w.heap.size w.heap.size 63 22 1 (fun pre : List SV => pre.length) (fun pre => pre.map SV.val) (fun pre v => v = .slice none 0 0 ↔ pre = [])) _) (ownFrom_below (Nat.le_refl _) (by simp)))
    (fun _ _ _ _ _ hs _ _ => hs)
    ⟨⟨_, bO, World.ownsRow_nil _ _ _ _, by simp⟩, hB0⟩
    (fun x => { tmps := #[.slice none 0 0, .func (.func 166) #[] #[.pointer (some ⟨b1, 0, none⟩), .pointer (some ⟨b2, 0, none⟩)], .pointer (some ⟨w.heap.size, 0, none⟩), undef, .slice none 0 0, x.val, .func (.func 166) #[] #[.pointer (some ⟨b1, 0, none⟩), .pointer (some ⟨b2, 0, none⟩)], x.val, undef, undef, undef, undef, undef], defers := [] }) ?assign ?body ?done ?stop
  case assign =>
    intro l x W K hK
    gi_wp2
    exact hK
  case body =>
    rintro l pre ⟨Ax, nx, cx⟩ W ⟨⟨v, hv, hrow, hnil⟩, hB⟩ hlt
    simp only [SV.val]
    have hc := hv.cell
    gi_wp2_with (gi_at_builtin; refine wpListIn_append_own _ rfl _ _ 63 rfl w.heap.size 22 i0 (.slice none 0 0) 1 24 Tryz.underlying63 hi hz0 hz1 hz2 rfl (by decide) _ _ _ rfl (hrow.alloc _) ⟨W.heap.size, 0, none⟩ 1 1 [.slice Ax nx cx] rfl rfl (cell_one_new _ _ _) (by simp [Value.oneCell']) (by simp [maxLen]; omega) (by omega) (by have := hB.size; simp; omega) ?_; intro v' w1 hown' hgrow _; obtain ⟨g', cap', rfl⟩ := ownsRow_succ hown'; obtain ⟨hv1, hv2, hr2, hk2, hb2⟩ := hv.appended (by decide) hrow hB.size (Nat.le_refl _) hown' hgrow; have hc1 := hv1.cell; have hf1 := hv1.frozen)
    exact ⟨hk2.from _, Kp.of_below hb2, ⟨_, hv2, by simpa [SV.val] using hr2, by simp⟩, hB.trans hb2⟩
  case done =>
    rintro D ys W hD rfl ⟨⟨v, hv, hrow, hnil⟩, hB⟩ hK
    have hc := hv.cell
    gi_wp2
    refine ⟨by simp, .inl ⟨_, _, rfl, run_takeDeferred hK, ?_⟩⟩
    refine ⟨_, results_tmp rfl _ _ _, v, rfl, ?_, ?_⟩
    · rw [partsOf_length] at hrow
      exact ownsRow_putObj hrow _ hK rfl
    · exact hB.trans (belowK_b (w := w) (Nat.le_refl _) W D _ _ (by simp at hD; omega) hK rfl rfl)
  case stop =>
    rintro D c pre W _ _ h _
    exact h.elim

set_option maxRecDepth 100000 in
set_option maxHeartbeats 2000000 in
theorem collect_any (b1 b2 b o m cnt cap : Nat) (A : Option Addr) (w : World) (hB1 : b1 < w.heap.size) (hB2 : b2 < w.heap.size)
    (hm : 1 ≤ m) (hmm : m ≤ 60000) (hcm : cnt * m ≤ 60000) (hcap : cnt * m ≤ cap) (hcap2 : cap ≤ 9223372036854775807) (hA : 0 < cnt → A = some ⟨b, o, none⟩)
    (h1 : w.heap[b1]? = some (.cells #[.slice A (cnt * m) cap] 22 (0, 0))) (h2 : w.heap[b2]? = some (.cells #[.int .i64 m] 3 (0, 0))) :
    Calls Tryz.prog 134 #[.func (.func 166) #[] #[.pointer (some ⟨b1, 0, none⟩), .pointer (some ⟨b2, 0, none⟩)]] w fun e W' =>
      ∃ v, e = .returned v ∧ W'.ownsRow w.heap.size 22 1 v cnt ((partsOf b o m cnt).map SV.val) ∧ Below w.heap.size w W' := by
  go_enter Tryz.func134, Tryz.ntmps134
  go_wp2_with (go_at_call 165; refine (appendSeq_any b1 b2 b o m cnt cap A _ hB1 hB2 hm hmm hcm hcap hcap2 hA h1 h2).mono ?_; rintro e w' ⟨v, rfl, hv, hB⟩; obtain ⟨A', c', rfl, _, _⟩ := own_shape hv)
  go_ret
  exact ⟨_, rfl, hv, hB⟩

set_option maxRecDepth 100000 in
set_option maxHeartbeats 2000000 in
theorem parts_any (b o cnt cap : Nat) (A : Option Addr) (w : World) (hcm : cnt * 8 ≤ 60000) (hcap : cnt * 8 ≤ cap) (hcap2 : cap ≤ 9223372036854775807) (hA : 0 < cnt → A = some ⟨b, o, none⟩) :
    Calls Tryz.prog 133 #[.slice A (cnt * 8) cap] w fun e W' =>
      ∃ v, e = .returned v ∧ W'.ownsRow w.heap.size 22 1 v cnt ((partsOf b o 8 cnt).map SV.val) ∧ Below w.heap.size w W' := by
  obtain ⟨i0, hi, hz0, hz1, hz2⟩ := info_parts info_rows
  refine (callsIn_wide (n := 3)).1 ?_
  refine callsIn_of_wp_marks Tryz.func133 rfl trivial ?_ rfl
  simp only [Tryz.ntmps133, List.size_toArray, List.length_cons, List.length_nil, Nat.reduceAdd, Nat.reduceSub, Array.replicate_succ, Array.replicate_zero, List.push_toArray, List.append_toArray, List.nil_append, List.cons_append]
  gi_wp2
  refine ⟨trivial, (callsIn_wide.2 (chunk_any _ 8 _ (by omega) ⟨_, _, _, rfl⟩)).mono ?_⟩
  rintro e w' ⟨rfl, rfl⟩
  gi_wp2
  have bO := Boxed.new w 63 (.slice none 0 0)
  have hB0 : Below w.heap.size w (((w.alloc (.cells #[.slice none 0 0] 63)).alloc (.cells #[.slice A (cnt * 8) cap] 22)).alloc (.cells #[.int .i64 8] 3)) := (((Below.refl _ w).alloc (Nat.le_refl _) _).alloc (by simp) _).alloc (by simp only [World.size_alloc]; omega) _
  have k1 : (((w.alloc (.cells #[.slice none 0 0] 63)).alloc (.cells #[.slice A (cnt * 8) cap] 22)).alloc (.cells #[.int .i64 8] 3)).heap[w.heap.size + 1]? = some (.cells #[.slice A (cnt * 8) cap] 22 (0, 0)) := by
    refine blk_alloc ?_ _
    have := World.alloc_heap_new (w.alloc (.cells #[.slice none 0 0] 63)) (.cells #[.slice A (cnt * 8) cap] 22)
    rw [World.size_alloc] at this
    exact this
  have k2 : (((w.alloc (.cells #[.slice none 0 0] 63)).alloc (.cells #[.slice A (cnt * 8) cap] 22)).alloc (.cells #[.int .i64 8] 3)).heap[w.heap.size + 2]? = some (.cells #[.int .i64 8] 3 (0, 0)) := by
    have := World.alloc_heap_new ((w.alloc (.cells #[.slice none 0 0] 63)).alloc (.cells #[.slice A (cnt * 8) cap] 22)) (.cells #[.int .i64 8] 3)
    rw [World.size_alloc, World.size_alloc] at this
    exact this
  have ksz : (((w.alloc (.cells #[.slice none 0 0] 63)).alloc (.cells #[.slice A (cnt * 8) cap] 22)).alloc (.cells #[.int .i64 8] 3)).heap.size = w.heap.size + 3 := by simp only [World.size_alloc]
  refine wpIn_rangeFunc_ownG rfl (by omega) (gf := 166) (lb := #[.pointer (some ⟨w.heap.size + 1, 0, none⟩), .pointer (some ⟨w.heap.size + 2, 0, none⟩)]) rfl trivial (enters_of Tryz.func166 (by kernel_rfl) rfl)
    (chunk_stops 2 (by omega) (w.heap.size + 1) (w.heap.size + 2) b o 8 cnt cap A (w.heap.size + 3) (fun k => k ≠ w.heap.size) (by omega) (by omega) (by omega) (by omega) _ (by omega) (by omega) (by omega) hcm hcap hcap2 hA
      k1 k2) Kp.trans (Kp.book (by omega)) (Below.refl _ _) (fun _ => rfl)
    (fun pre W => (∃ v, Boxed W w.heap.size 63 v ∧ W.ownsRow (w.heap.size + 3) 22 1 v pre.length (pre.map SV.val) ∧ (v = .slice none 0 0 ↔ pre = [])) ∧ (Below w.heap.size w W ∧ w.heap.size + 3 ≤ W.heap.size))
    (fun _ _ _ => False)
    (OwnFrom.and (Own.from (holdsRow_own (w.heap.size + 3) w.heap.size 63 22 1 (fun pre : List SV => pre.length) (fun pre => pre.map SV.val) (fun pre v => v = .slice none 0 0 ↔ pre = [])) _) (OwnFrom.and (ownFrom_below (Nat.le_refl _) (by omega)) (fun _ _ _ _ h hg _ => Nat.le_trans h hg.size)))
    (fun _ _ _ _ _ hs _ _ => hs)
    ⟨⟨_, (bO.alloc _).alloc _, World.ownsRow_nil _ _ _ _, by simp⟩, hB0, by omega⟩
    (fun x => { tmps := #[.slice A (cnt * 8) cap, undef, .slice none 0 0, .pointer (some ⟨w.heap.size, 0, none⟩), x.val, .slice A (cnt * 8) cap, .func (.func 166) #[] #[.pointer (some ⟨w.heap.size + 1, 0, none⟩), .pointer (some ⟨w.heap.size + 2, 0, none⟩)], x.val, undef, undef, undef, undef, undef], defers := [] }) ?assign ?body ?done ?stop
  case assign =>
    intro l x W K hK
    gi_wp2
    exact hK
  case body =>
    rintro l pre ⟨Ax, nx, cx⟩ W ⟨⟨v, hv, hrow, hnil⟩, hB, hsz⟩ hlt
    simp only [SV.val]
    have hc := hv.cell
    gi_wp2_with (gi_at_builtin; refine wpListIn_append_own _ rfl _ _ 63 rfl (w.heap.size + 3) 22 i0 (.slice none 0 0) 1 24 Tryz.underlying63 hi hz0 hz1 hz2 rfl (by decide) _ _ _ rfl (hrow.alloc _) ⟨W.heap.size, 0, none⟩ 1 1 [.slice Ax nx cx] rfl rfl (cell_one_new _ _ _) (by simp [Value.oneCell']) (by simp [maxLen]; omega) (by omega) (by simp; omega) ?_; intro v' w1 hown' hgrow _; obtain ⟨g', cap', rfl⟩ := ownsRow_succ hown'; obtain ⟨hv1, hv2, hr2, hk2, hb2⟩ := hv.appended (by decide) (hrow.mono (by omega : w.heap.size ≤ w.heap.size + 3)) hB.size (Nat.le_refl _) (hown'.mono (by omega)) hgrow; have hc1 := hv1.cell; have hf1 := hv1.frozen)
    refine ⟨hk2.from _, ?_, ⟨_, hv2, by simpa [SV.val] using hown'.kept (grownBy_setCell' w1 w.heap.size _) (.inr (hv1.not_row (by decide) hown').symm), by simp⟩, hB.trans hb2, ?_⟩
    · intro k hk hkn
      have e1 := (hgrow.block k (by simp; omega) (fun e' : some k = v.ownBlock => by
        rcases hrow.2 with ⟨rfl, _⟩ | ⟨g, cap, cur, rfl, hb, _, _⟩
        · exact absurd e' (by simp [Value.ownBlock])
        · have : k = g := by simpa [Value.ownBlock] using e'
          omega))
      rw [Below.heap_setCell _ _ _ k hkn, e1]
      exact Below.heap_alloc _ _ _ (by omega)
    · have := hb2.size; omega
  case done =>
    rintro D ys W hD rfl ⟨⟨v, hv, hrow, hnil⟩, hB, _⟩ hK
    have hc := hv.cell
    gi_wp2
    refine ⟨by simp, .inl ⟨_, _, rfl, run_takeDeferred hK, ?_⟩⟩
    refine ⟨_, results_tmp rfl _ _ _, v, rfl, ?_, ?_⟩
    · rw [partsOf_length] at hrow
      exact ownsRow_putObj (hrow.mono (by omega)) _ hK rfl
    · exact hB.trans (belowK_b (w := w) (Nat.le_refl _) W D _ _ (by omega) hK rfl rfl)
  case stop =>
    rintro D c pre W _ _ h _
    exact h.elim
end Go.Proofs.YtblddkjdglliaaaGreatDoor
