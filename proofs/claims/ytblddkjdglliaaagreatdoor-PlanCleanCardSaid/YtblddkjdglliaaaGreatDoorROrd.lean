/- Contracts: the reference's Weight, Order, Targets: what the program's give. Conditions: numbers as small as the statements have them. -/
import Derived.Test.YtblddkjdglliaaaGreatDoorRSha
import Derived.Test.YtblddkjdglliaaaGreatDoorROrdP
import Derived.Test.YtblddkjdglliaaaGreatDoorTarg
import Derived.Deep.RegionHeld3
import Derived.Deep.DrawnRows
import Derived.RegionTactic
import Derived.BigRegion
namespace Go.Proofs.YtblddkjdglliaaaGreatDoor
open Go.RowKit
attribute [local go_sem ↓] Go.wp_at_zero Go.wp_at_succ

set_option maxRecDepth 100000 in
set_option maxHeartbeats 1000000 in
theorem refWeight_any (s d : Int) (w : World) (hs : 0 ≤ s ∧ s ≤ 1000000000) (hd : 0 ≤ d ∧ d ≤ 1000) :
    Calls Tryz.prog 93 #[.int .i64 s, .int .i64 d] w fun e w' => e = .returned (.int .u64 (weightL s d)) ∧ Below w.heap.size w w' := by
  have ws : IntKind.u64.wrap s = s := IntWalk.u64_in _ (by omega)
  have wd : IntKind.u64.wrap d = d := IntWalk.u64_in _ (by omega)
  go_enter Tryz.func93, Tryz.ntmps93
  go_wp2_with fail
  refine (refNum_any s 8 w (by omega) (by omega) (by omega)).mono ?_
  rintro e w1 ⟨v1, rfl, ho1, hB1⟩
  obtain ⟨A1, c1, rfl, _, _⟩ := own_shape ho1
  replace ho1 := Lib.hid ho1
  go_wp2_with fail
  refine (refNum_any d 8 w1 (by omega) (by omega) (by omega)).mono ?_
  rintro e w2 ⟨v2, rfl, ho2, hB2⟩
  obtain ⟨A2, c2, rfl, _, _⟩ := own_shape ho2
  have hH2 := Lib.hid (HB.of_own ho2 (putL_range _ _) (by rw [putL_length]; omega))
  replace ho1 := Lib.hid (own_below ho1.out hB2)
  have hBw2 := hB1.trans (hB2.mono hB1.size)
  clear ho2
  go_wp2_with (at_builtin; refine app_arm Tryz.E8 _ rfl (.tmp 7) (.tmp 10) rfl rfl (own_zero ho1.out) rfl (Src.of_HB hH2.out) (ints_one _ _) (by omega) (by unfold maxLen; omega) ?_; intro v3 w3 ho3 hg3 _; obtain ⟨A3, c3, rfl, _, _⟩ := own_shape ho3)
  have hB3 : Below w.heap.size w w3 := hBw2.trans (hg3.chg.to_below hBw2.size fun q e => (ho1.out.lt q e).1)
  rw [← ints_append] at ho3
  have hHB := HB.of_own ho3 (by
    intro x hx
    rcases List.mem_append.1 hx with h | h
    · exact putL_range _ _ x h
    · exact putL_range _ _ x h) (by simp [putL_length])
  have hS := refSha_any _ _ w3 hHB (by simp [putL_length])
  replace hS := Lib.hid hS
  clear hHB ho3 hg3
  go_wp2_with fail
  refine hS.out.mono ?_
  rintro e w4 ⟨v4, rfl, ho4, hB4⟩
  have hH4 := HB.of_own ho4 (outL_range _) (by rw [sum16_length]; omega)
  obtain ⟨A4, c4, rfl, h41, h42⟩ := own_shape ho4
  obtain ⟨g, cur, rfl, _⟩ := own_pos ho4 (by omega)
  have hG := refRead_any (.slice (some ⟨g, 0, none⟩) 8 c4) _ w4 (by
    have := hH4.sub 0 8 c4 (by omega) (by omega) (by omega) h42 (A' := some ⟨g, 0, none⟩) (fun _ b o e => by cases e; rfl)
    exact this) (by simp; omega)
  have h8 : 8 ≤ c4 := by omega
  replace hG := Lib.hid hG
  clear hH4 ho4
  go_wp2_with fail
  refine hG.out.mono ?_
  rintro e w5 ⟨rfl, rfl⟩
  go_wp2
  go_ret
  exact ⟨rfl, hB3.trans (hB4.mono hB3.size)⟩

theorem Src.of_HC {w : World} {A : Option Addr} {n c : Nat} {xs : List Int} (h : HC w (.slice A n c) xs) : Src w 1 A n (ints .i64 xs) := by
  obtain ⟨hn, _, hc⟩ := h.cell
  refine ⟨by simp [ints_length, hn], fun hp => ?_⟩
  obtain ⟨b, o, rfl, _⟩ := hc 0 hp
  refine ⟨_, rfl, fun j u hu => ?_⟩
  have hj : j < xs.length := by rw [← ints_length .i64]; exact (List.getElem?_eq_some_iff.1 hu).1
  obtain ⟨b', o', e, hc'⟩ := hc j (by omega)
  cases e
  rw [add_lit, hc']
  rw [ints_get _ _ _ hj] at hu
  exact hu
set_option maxRecDepth 100000 in
set_option maxHeartbeats 2000000 in
theorem refOrder_any (s : Int) (v : Value) (ds : List Int) (w : World) (hs : 0 ≤ s ∧ s ≤ 1000000000) (h : HC w v ds) (hn1 : 1 ≤ ds.length) (hn : ds.length ≤ 12) (hd : ∀ d ∈ ds, 0 ≤ d ∧ d ≤ 1000) :
    Calls Tryz.prog 49 #[.int .i64 s, v] w fun e w' => ∃ v', e = .returned v' ∧ w'.ownsRow w.heap.size 3 1 v' ds.length (ints .i64 (orderL weightL s ds)) ∧ Below w.heap.size w w' := by
  obtain ⟨A, n, c, rfl⟩ := h.shape
  obtain ⟨hlen, hnc, _⟩ := h.cell
  rw [← hlen] at hn1 hn ⊢
  have HL := Lib.hid hlen
  have HH := Lib.hid h
  have WT : Hid (∀ d W, 0 ≤ d ∧ d ≤ 1000 → Calls Tryz.prog 93 #[.int .i64 s, .int .i64 d] W fun e w' => e = .returned (.int .u64 (weightL s d)) ∧ Below W.heap.size W w') := Lib.hid fun d W h => refWeight_any s d W hs h
  have HD := Lib.hid hd
  clear h hlen hd
  have hle := Lib.hid (own_zero (own_empty w 3))
  go_enter Tryz.func49, Tryz.ntmps49
  go_wp2_with (at_builtin; refine app_arm Tryz.EI _ rfl (.tmp 10) (.tmp 11) rfl (v := .slice (some ⟨w.heap.size, 0, none⟩) 0 0) rfl hle.out rfl (Src.of_HC (HH.out.below ((Below.refl _ w).alloc (Nat.le_refl _) _))) (ints_one _ _) (by omega) (by unfold maxLen; omega) ?_; intro v1 w1 ho1 hg1 _; simp only [Nat.zero_add, List.nil_append] at ho1; obtain ⟨A1, k1, rfl, hk1, _⟩ := own_shape ho1)
  have hB1 : Below w.heap.size w w1 := ((Below.refl _ w).alloc (Nat.le_refl _) _).trans (hg1.chg.to_below (by simp) (by intro k hk; simp [Value.ownBlock] at hk; omega))
  have ho1' : w1.ownsRow w.heap.size 3 1 (.slice A1 n k1) n (ints .i64 ds) := own_base ho1 fun q e => by
    rcases hg1.at_ with f | f
    · rw [f] at e; simp [Value.ownBlock] at e; omega
    · have := f q e; simp at this; omega
  obtain ⟨g, _, rfl, _⟩ := own_pos ho1 (by omega)
  replace ho1' := Lib.hid ho1'
  clear ho1 hg1 hle
  go_loopw [6] (fun i wr => ∃ (q : Nat) (l : List Int), q ≤ n ∧ i = .int .i64 q ∧ Srt s ds l q ∧ l.length = n ∧ wr.ownsRow w.heap.size 3 1 (.slice (some ⟨g, 0, none⟩) n k1) n (ints .i64 l) ∧ Below w.heap.size w wr) (fun i _ => n - (intOf i).toNat)
  case atStart => exact ⟨0, ds, by omega, rfl, Srt.start s ds, HL.out.symm, ho1'.out, hB1⟩
  case round =>
  obtain ⟨q, l, hq, rfl, hS, hll, ho, hB⟩ := hrel
  by_cases hlt : q < n
  case neg =>
    obtain rfl : q = n := by omega
    have hfin : l = orderL weightL s ds := Srt.done (by rw [hll]; exact hS)
    rw [hfin] at ho
    replace ho := Lib.hid ho
    clear hfin hll hS
    go_wp2
    go_ret
    exact ⟨_, rfl, ho.out, hB⟩
  case pos =>
  have hI := Lib.hid (hS.ins (by rw [hll]; exact hlt))
  have hll' := Lib.hid hll
  have ho' := Lib.hid ho
  clear hS hll ho
  obtain ⟨w0, rfl⟩ : ∃ x : World, x = wr := ⟨_, rfl⟩
  go_wp2_with fail
  go_loopw [7] (fun i wr => ∃ (kk : Nat) (l : List Int), i = .int .i64 kk ∧ Ins s ds l q kk ∧ l.length = n ∧ wr.ownsRow w.heap.size 3 1 (.slice (some ⟨g, 0, none⟩) n k1) n (ints .i64 l) ∧ Below w.heap.size w wr) (fun i _ => (intOf i).toNat)
  case atStart => exact ⟨q, l, rfl, hI.out, hll'.out, ho'.out, hB⟩
  case round =>
  clear hI hll' ho' hB hB1 ho1'
  obtain ⟨kk, l, rfl, hI, hll, ho, hB⟩ := hrel
  by_cases hk0 : kk = 0
  case pos =>
    subst hk0
    have hS := Lib.hid hI.zero
    replace hll := Lib.hid hll
    replace ho := Lib.hid ho
    clear hI
    go_wp2
    exact ⟨⟨q + 1, l, by omega, by go_num, hS.out, hll.out, ho.out, hB⟩, by simp [intOf]; omega⟩
  case neg =>
  obtain ⟨k, hk⟩ : ∃ k, k + 1 = kk := ⟨kk - 1, by omega⟩
  have hkq := hI.ki
  obtain ⟨g', cur, e, _, hge, _, hblk, _, _, hcell⟩ := own_pos ho (by omega)
  cases e
  have m0 := hcell k (by omega)
  have m1 := hcell kk (by omega)
  rw [ints_get _ _ _ (by omega)] at m0 m1
  have f0 := frozen_of_blk hblk k
  have f1 := frozen_of_blk hblk kk
  have hgl := blk_lt hblk
  have hst := Lib.hid (((ho.stored k (.int .i64 (l[kk]?.getD 0))).1.stored kk (.int .i64 (l[k]?.getD 0))).1)
  have hsw : ((ints .i64 l).set k (.int .i64 (l[kk]?.getD 0))).set kk (.int .i64 (l[k]?.getD 0)) = ints .i64 ((l.set k (l[kk]?.getD 0)).set kk (l[k]?.getD 0)) := by simp [ints, List.map_set]
  have hd : ∀ j, j < n → 0 ≤ l[j]?.getD 0 ∧ l[j]?.getD 0 ≤ 1000 := by
    intro j hj
    have hj' : j < l.length := by omega
    rw [List.getElem?_eq_getElem hj']
    exact HD.out _ (hI.perm.mem_iff.1 (List.getElem_mem hj'))
  have hx := hd k (by omega)
  have hy := hd kk (by omega)
  have hstop : nle s (l[k]?.getD 0) (l[kk]?.getD 0) → Srt s ds l (q + 1) := by subst hk; exact hI.stop
  have hswap : ¬ nle s (l[k]?.getD 0) (l[kk]?.getD 0) → Ins s ds ((l.set k (l[kk]?.getD 0)).set kk (l[k]?.getD 0)) q k := by subst hk; exact hI.swap
  have e1 : IntKind.i64.wrap ((kk : Int) - 1) = (k : Int) := by rw [show (kk : Int) - 1 = (k : Int) by omega]; exact IntWalk.i64_in _ (by omega)
  have hkn : kk < n := by omega
  have hkn0 : k < n := by omega
  have i0 : (0 : Int) ≤ k ∧ (k : Int) < n := by omega
  have i1 : (0 : Int) < kk ∧ (kk : Int) < n := by omega
  have hkI : (kk : Int) - 1 = (k : Int) := by omega
  have hkne : kk ≠ k := by omega
  have hkk : k < kk := by omega
  replace hstop := Lib.hid hstop
  replace hswap := Lib.hid hswap
  replace hsw := Lib.hid hsw
  have HLL := Lib.hid hll
  have HO := Lib.hid ho
  replace hkI := Lib.hid hkI
  clear hd hcell hI hll ho hblk hk
  generalize hX : l[k]?.getD 0 = x at *
  generalize hY : l[kk]?.getD 0 = y at *
  replace hX := Lib.hid hX
  replace hY := Lib.hid hY
  obtain ⟨w2, rfl⟩ : ∃ x : World, x = wr := ⟨_, rfl⟩
  go_upto_region 8 with (fail)
  go_region_held3 (fun w' => w'.cell? ⟨g, k, none⟩ = some (.int .i64 x) ∧ w'.cell? ⟨g, kk, none⟩ = some (.int .i64 y)) (first | exact ⟨hcB0, hcB1⟩ | exact ⟨hcA0, hcA1⟩ | go_keep)
    (first
      | (go_at_call 93; (with_reducible refine (WT.out x _ hx).mono ?_); rintro e wA ⟨rfl, hbA⟩; have hcA0 : wA.cell? ⟨g, k, none⟩ = some (.int .i64 x) := (hbA.cell (p := ⟨g, k, none⟩) hgl).trans m0; have hcA1 : wA.cell? ⟨g, kk, none⟩ = some (.int .i64 y) := (hbA.cell (p := ⟨g, kk, none⟩) hgl).trans m1; have hglA : g < wA.heap.size := Nat.lt_of_lt_of_le hgl hbA.size)
      | (go_at_call 93; (with_reducible refine (WT.out y _ hy).mono ?_); rintro e wB ⟨rfl, hbB⟩; have hcB0 : wB.cell? ⟨g, k, none⟩ = some (.int .i64 x) := (hbB.cell (p := ⟨g, k, none⟩) hglA).trans hcA0; have hcB1 : wB.cell? ⟨g, kk, none⟩ = some (.int .i64 y) := (hbB.cell (p := ⟨g, kk, none⟩) hglA).trans hcA1))
  go_upto_region 9 with (fail)
  obtain ⟨a, ha⟩ : ∃ a, weightL s x = a := ⟨_, rfl⟩
  obtain ⟨c', hb⟩ : ∃ a, weightL s y = a := ⟨_, rfl⟩
  rw [ha, hb]
  have hA : Hid ((c' < a ∨ (c' = a ∧ x ≤ y)) → Srt s ds l (q + 1)) := Lib.hid fun h => hstop.out (by unfold nle; rw [ha, hb]; exact h)
  have hZ : Hid (¬ (c' < a ∨ (c' = a ∧ x ≤ y)) → Ins s ds ((l.set k y).set kk x) q k) := Lib.hid fun h => hswap.out (by unfold nle; rw [ha, hb]; exact h)
  replace hbA : Below w2.heap.size w2 wA := ⟨hbA.os, hbA.tape, hbA.output, hbA.size, hbA.block⟩
  have hBB : Below w.heap.size w wB := hB.trans ((below_then hbA hbA.size hbB).mono hB.size)
  have hOB := Lib.hid (own_below (own_below HO.out hbA) hbB)
  have fB0 : wB.frozen? ⟨g, k, none⟩ = false := by rw [hbB.frozen (p := ⟨g, k, none⟩) hglA, hbA.frozen (p := ⟨g, k, none⟩) hgl]; exact f0
  have fB1 : wB.frozen? ⟨g, kk, none⟩ = false := by rw [hbB.frozen (p := ⟨g, kk, none⟩) hglA, hbA.frozen (p := ⟨g, kk, none⟩) hgl]; exact f1
  replace hBB := Lib.hid hBB
  have h0 : ∀ N, (wB.drewN N).ownsRow w.heap.size 3 1 (.slice (some ⟨g, 0, none⟩) n k1) n (ints .i64 l) := fun N => hOB.out
  replace h0 := Lib.hid h0
  clear ha hb hbA hbB hcA0 hcA1 hglA hstop hswap m0 m1 f0 f1 hB hst HO hgl
  by_cases h1 : c' < a
  · have d1 : decide (c' < a) = true := decide_eq_true h1
    have hS := Lib.hid (hA.out (.inl h1))
    clear h1
    go_wp2_with fail
    go_quiet (fail)
    go_wp2
    exact ⟨⟨q + 1, l, by omega, by go_num, hS.out, HLL.out, hOB.out, below_drewN' hBB.out _⟩, by simp [intOf]; omega⟩
  by_cases h2 : c' = a ∧ x ≤ y
  · have d1 : decide (c' < a) = false := decide_eq_false h1
    have d2 : (a == c') = true := by simp; exact h2.1.symm
    have d3 : decide (x ≤ y) = true := decide_eq_true h2.2
    have hS := Lib.hid (hA.out (.inr h2))
    clear h1 h2
    go_wp2_with fail
    go_quiet (fail)
    go_wp2
    exact ⟨⟨q + 1, l, by omega, by go_num, hS.out, HLL.out, hOB.out, below_drewN' hBB.out _⟩, by simp [intOf]; omega⟩
  have hI2 := Lib.hid (hZ.out (by omega))
  have d1 : decide (c' < a) = false := decide_eq_false h1
  have hsw2 : Hid ((((ints .i64 l).set k (.int .i64 y)).set kk (.int .i64 x)) = ints .i64 ((l.set k y).set kk x)) := hsw
  by_cases h3 : a = c'
  case' pos =>
    have d2 : (a == c') = true := by simp; exact h3
    have d3 : decide (x ≤ y) = false := decide_eq_false (by omega)
  case' neg =>
    have d2 : (a == c') = false := by simp; exact h3
  all_goals
    clear h1 h2 h3
    go_wp2_with fail
    go_quiet (fail)
    go_wp2_with fail
    go_region
    all_goals go_wp2
    all_goals
      refine ⟨⟨k, (l.set k y).set kk x, ?_, hI2.out, by simp [HLL.out], ?_, ?_⟩, ?_⟩
      · first | rfl | rw [hkI.out]
      · rw [← hsw2.out]
        exact (((h0.out _).stored k _).1.stored kk _).1
      · exact ((below_drewN' hBB.out _).setCell (p := ⟨g, k, none⟩) hge _).setCell (p := ⟨g, kk, none⟩) hge _
      · simp [intOf]; omega

set_option maxRecDepth 100000 in
set_option maxHeartbeats 1000000 in
theorem refTargets_any (s : Int) (v : Value) (st : List Int) (n : Nat) (w : World) (hs : 0 ≤ s ∧ s ≤ 1000000000) (h : HC w v st) (hl : st.length ≤ 12) (hn1 : 1 ≤ n) (hn : n ≤ 1000) :
    Calls Tryz.prog 15 #[.int .i64 s, v, .int .i64 n] w fun e w' => ∃ v', e = .returned (.tuple #[v', .bool (decide (n ≤ (insL st).length))]) ∧ HI w' v' (targetsL weightL s st n) ∧ FreshV w.heap.size v' ∧ Below w.heap.size w w' := by
  obtain ⟨A, m, c, rfl⟩ := h.shape
  obtain ⟨hm, hmc, _⟩ := h.cell
  have HH := Lib.hid h
  have HST := Lib.hid hm
  have hm12 : m ≤ 12 := by omega
  clear h hm hl
  go_enter Tryz.func15, Tryz.ntmps15
  go_wp2
  go_loopw [8, 9] (fun u i wr => ∃ k : Nat, k ≤ m ∧ i = .int .i64 k ∧ Below w.heap.size w wr ∧ wr.ownsRow w.heap.size 3 1 u (inK st k).length (ints .i64 (inK st k))) (fun _ i _ => m - (intOf i).toNat)
  case atStart => exact ⟨0, by omega, rfl, Below.refl _ _, World.ownsRow_nil _ _ _ _⟩
  case round =>
    obtain ⟨k, hk, rfl, hB, ho⟩ := hrel
    obtain ⟨Av, cv, rfl, hcv, _⟩ := own_shape ho
    have HO := Lib.hid ho
    clear ho
    by_cases hlt : k < m
    · have hC := (HH.out.below hB).cell.2.2 k hlt
      obtain ⟨b, o, rfl, hck⟩ := hC
      by_cases hst : st[k]?.getD 0 = 1
      · rw [hst] at hck
        have hstep : inK st (k + 1) = inK st k ++ [(k : Int)] := by rw [inK, if_pos hst]
        have hlen := inK_length st k
        have HS := Lib.hid hstep
        clear hst hstep
        generalize inK st k = L at *
        generalize hq : L.length = q at *
        have HQ := Lib.hid hq
        clear hq
        have ho2 : wr.ownsRow 0 3 1 (.slice Av q cv) q (ints .i64 L) := own_zero HO.out
        go_wp2_with (at_builtin; go_must (refine app_arm Tryz.EI _ rfl (.tmp 21) (.tmp 23) rfl rfl (v := .slice Av q cv) (ho2.alloc _) rfl (Src.alloc wr 1 [_] _ 1 rfl) (by simp [Value.oneCell']) (by omega) (by unfold maxLen; omega) ?_); intro v2 w2 ho3 hg2 _; obtain ⟨A2, k2, rfl, _⟩ := own_shape ho3)
        have hg3 := hg2.from_alloc
        refine ⟨⟨k + 1, by omega, by go_num, hB.trans (hg3.chg.to_below hB.size fun q e => (HO.out.lt q e).1), ?_⟩, by simp [intOf]; omega⟩
        rw [HS.out, List.length_append, ints_append, HQ.out]
        refine own_base ho3 fun q e => ?_
        rcases hg3.at_ with f | f
        · exact (HO.out.lt q (f ▸ e)).1
        · exact Nat.le_trans hB.size (f q e)
      · have hstep : inK st (k + 1) = inK st k := by rw [inK, if_neg hst]
        have HS := Lib.hid hstep
        clear hstep
        obtain ⟨x, hx⟩ : ∃ x, st[k]?.getD 0 = x := ⟨_, rfl⟩
        rw [hx] at hck hst
        clear hx
        have hb : (x == 1) = false := by simpa using hst
        go_wp2
        refine ⟨⟨k + 1, by omega, by go_num, hB, ?_⟩, by simp [intOf]; omega⟩
        rw [HS.out]; exact HO.out
    · obtain rfl : k = m := by omega
      have hins : inK st k = insL st := by rw [insL, ← HST.out]
      have hr := inK_range st k
      have hlen := inK_length st k
      have htl : targetsL weightL s st n = if n ≤ (insL st).length then (orderL weightL s (insL st)).take n else [] := rfl
      rw [hins] at HO hcv hr hlen ⊢
      clear hins
      obtain ⟨L, hL⟩ : ∃ L, insL st = L := ⟨_, rfl⟩
      rw [hL] at HO hcv hr hlen htl ⊢
      replace hL := Lib.hid hL
      by_cases hq : n ≤ L.length
      · rw [if_pos hq] at htl
        replace htl := Lib.hid htl
        have hdq := Lib.hid (decide_eq_true hq)
        have OR := refOrder_any s (.slice Av L.length cv) L wr hs (HI.of_own HO.out).toC (by omega) (by omega) (fun d hd => by have := hr d hd; omega)
        replace OR := Lib.hid OR
        have hr' := Lib.hid hr
        clear hr
        obtain ⟨q, hqq⟩ : ∃ q, L.length = q := ⟨_, rfl⟩
        rw [hqq] at HO OR hcv hlen hq ⊢
        clear hqq
        have d1 : decide ((q : Int) < (n : Int)) = false := decide_eq_false (by omega)
        have d2 : decide ((n : Int) < 0) = false := decide_eq_false (by omega)
        go_wp2_with fail
        refine OR.out.mono ?_
        rintro e w4 ⟨v4, rfl, ho4, hB4⟩
        obtain ⟨A4, c4, rfl, h41, h42⟩ := own_shape ho4
        have hBw := hB.trans (hB4.mono hB.size)
        have h4n : n ≤ c4 := by omega
        have hHI : HI w4 (.slice A4 n c4) ((orderL weightL s L).take n) := by
          obtain ⟨A', c', e, h1, h2, h3⟩ := HI.of_own ho4
          simp only [Value.slice.injEq] at e
          obtain ⟨rfl, hlq, rfl⟩ := e
          have hl2 : ((orderL weightL s L).take n).length = n := by rw [List.length_take, ← hlq]; omega
          refine ⟨A4, c4, by rw [hl2], by rw [hl2]; exact h4n, h2, fun hp => ?_⟩
          obtain ⟨b, o, cur, u, e1, e2, e3⟩ := h3 (by omega)
          refine ⟨b, o, cur, u, e1, e2, fun i hi => ?_⟩
          rw [hl2] at hi
          rw [e3 i (by omega), List.getElem?_take, if_pos hi]
        have hFR : FreshV w.heap.size (.slice A4 n c4) := by
          intro x hx
          refine Nat.le_trans hB.size (FreshV.of_own ho4 x ?_)
          cases A4 with
          | none => simp [blkOf] at hx
          | some a => simpa [blkOf] using hx
        obtain ⟨g, cur, rfl, _⟩ := own_pos ho4 (by omega)
        replace hHI := Lib.hid hHI
        replace hFR := Lib.hid hFR
        clear ho4 hB4
        go_wp2
        go_ret2
        rw [htl.out, hL.out, hdq.out]
        exact ⟨_, rfl, hHI.out, hFR.out, hBw⟩
      · rw [if_neg hq] at htl
        replace htl := Lib.hid htl
        have hdq := Lib.hid (decide_eq_false hq)
        have d1 : decide ((L.length : Int) < (n : Int)) = true := decide_eq_true (by omega)
        obtain ⟨q, hqq⟩ : ∃ q, L.length = q := ⟨_, rfl⟩
        rw [hqq] at HO hcv hlen d1 hq ⊢
        clear hqq
        go_wp2
        go_ret2
        rw [htl.out, hL.out, hdq.out]
        exact ⟨_, rfl, HI.nil _, by intro x hx; simp [blkOf] at hx, hB⟩
end Go.Proofs.YtblddkjdglliaaaGreatDoor
