/- Contract: the reference's Sha (of sixteen bytes): what hash.Sum gives. No condition. -/
import Derived.Test.YtblddkjdglliaaaGreatDoorRShaP
namespace Go.Proofs.YtblddkjdglliaaaGreatDoor
open Go.RowKit

theorem own_empty (w : World) (e : TypeId) : (w.alloc (.cells #[] e)).ownsRow w.heap.size e 1 (.slice (some ⟨w.heap.size, 0, none⟩) 0 0) 0 [] :=
  World.ownsRow_lit (base := w.heap.size) (e := e) (size := 1) w #[] 0 (Nat.le_refl _) (by unfold maxLen; omega) (by simp)

theorem build_arm {P : Program} {ops : Array Oper} {rest : List Oper} {o : Oper} {a : Act} {w : World} {Q : Exit → Act → World → Prop} (hg : o.guard = none) (t : TypeId) (parts : Array (Nat × Operand)) (ho : o.op = .build t parts) (cells : Array Value)
    (hf : P.built t (parts.map fun (i, x) => (i, a.eval x)).toList = some cells) (h : wpList P ops Q rest (a.put o.dst (.agg cells)) w) : wpList P ops Q (o :: rest) a w :=
  wpList_build hg t parts ho (by rw [hf]; rfl) (by rw [hf]; exact h)

set_option maxRecDepth 100000 in
set_option maxHeartbeats 4000000 in
theorem refSha_any (v : Value) (bs : List Int) (w : World) (h : HB w v bs) (hl : bs.length = 16) :
    Calls Tryz.prog 129 #[v] w fun e w' => ∃ v', e = .returned v' ∧ w'.ownsRow w.heap.size 5 1 v' 32 (ints .u8 (sum16 bs)) ∧ Below w.heap.size w w' := by
  obtain ⟨A, c, rfl, _⟩ := id h
  rw [hl] at h ⊢
  have HH := Lib.hid h
  have hr := Lib.hid h.range
  have HL := Lib.hid hl
  clear h hl
  go_enter Tryz.func129, Tryz.ntmps129
  obtain ⟨Z, hZ⟩ : ∃ Z, (ints .u32 turnsL).toArray = Z := ⟨_, rfl⟩
  have hZs : Hid (Z.size = 64) := Lib.hid (by rw [← hZ]; rfl)
  have hZi : Hid ((Tryz.prog.info? 205).map (·.size) = some Z.size) := Lib.hid (by rw [hZs.out]; kernel_rfl)
  have hZ1 : Hid (Z.all (·.oneCell') = true) := Lib.hid (by rw [← hZ, Array.all_eq_true_iff_forall_mem]; intro x hx; exact ints_one _ _ x (by simpa using hx))
  replace hZ := Lib.hid hZ
  go_upto_region 2 with (first
    | (refine build_arm rfl 205 _ rfl Z (by rw [← hZ.out]; kernel_rfl) ?_)
    | (refine wpList_store_row rfl 205 (.tmp 3) (.tmp 15) rfl w.heap.size Z rfl rfl 205 _ (heap_alloc_new w _) hZi.out (by rw [hZs.out]; rfl) hZ1.out ?_))
  obtain ⟨W0, hW0⟩ : ∃ W, (w.alloc (.cells #[Value.int .u32 0, Value.int .u32 0, Value.int .u32 0, Value.int .u32 0, Value.int .u32 0, Value.int .u32 0, Value.int .u32 0, Value.int .u32 0, Value.int .u32 0, Value.int .u32 0, Value.int .u32 0, Value.int .u32 0, Value.int .u32 0, Value.int .u32 0, Value.int .u32 0, Value.int .u32 0, Value.int .u32 0, Value.int .u32 0, Value.int .u32 0, Value.int .u32 0, Value.int .u32 0, Value.int .u32 0, Value.int .u32 0, Value.int .u32 0, Value.int .u32 0, Value.int .u32 0, Value.int .u32 0, Value.int .u32 0, Value.int .u32 0, Value.int .u32 0, Value.int .u32 0, Value.int .u32 0, Value.int .u32 0, Value.int .u32 0, Value.int .u32 0, Value.int .u32 0, Value.int .u32 0, Value.int .u32 0, Value.int .u32 0, Value.int .u32 0, Value.int .u32 0, Value.int .u32 0, Value.int .u32 0, Value.int .u32 0, Value.int .u32 0, Value.int .u32 0, Value.int .u32 0, Value.int .u32 0, Value.int .u32 0, Value.int .u32 0, Value.int .u32 0, Value.int .u32 0, Value.int .u32 0, Value.int .u32 0, Value.int .u32 0, Value.int .u32 0, Value.int .u32 0, Value.int .u32 0, Value.int .u32 0, Value.int .u32 0, Value.int .u32 0, Value.int .u32 0, Value.int .u32 0, Value.int .u32 0] 205)).setRow w.heap.size Z = W := ⟨_, rfl⟩
  rw [hW0]
  have hbk0 : RowU 205 W0 w.heap.size turnsL := by unfold RowU; rw [← hW0, hZ.out]; exact setRow_heap _ _ _ _ _ _ (heap_alloc_new w _)
  have hB0 : Below w.heap.size w W0 := by rw [← hW0]; exact below_setRow ((Below.refl _ w).alloc (Nat.le_refl _) _) (Nat.le_refl _) _
  have hs0 : W0.heap.size = w.heap.size + 1 := by rw [← hW0]; simp [World.setRow]
  clear hW0 hZs hZi hZ1 hZ
  go_upto_region 3 with (fail)
  obtain ⟨W1, hW1⟩ : ∃ W, W0.alloc (.cells #[.int .u32 1779033703, .int .u32 3144134277, .int .u32 1013904242, .int .u32 2773480762, .int .u32 1359893119, .int .u32 2600822924, .int .u32 528734635, .int .u32 1541459225] 206) = W := ⟨_, rfl⟩
  rw [hW1]
  have hbk : RowU 205 W1 w.heap.size turnsL := by rw [← hW1]; exact blk_alloc hbk0 _
  have hbh : RowU 206 W1 (w.heap.size + 1) ivL := by rw [← hW1, ← hs0]; exact heap_alloc_new W0 _
  have hB1 : Below w.heap.size w W1 := by rw [← hW1]; exact hB0.alloc hB0.size _
  have hs1 : W1.heap.size = w.heap.size + 2 := by rw [← hW1]; simp [hs0]
  clear hW1 hbk0 hB0 hs0
  obtain ⟨q, hq⟩ : ∃ q, w.heap.size = q := ⟨_, rfl⟩
  rw [hq] at hbk hbh hB1 hs1 ⊢
  replace hq := Lib.hid hq
  replace hbk := Lib.hid hbk
  replace hbh := Lib.hid hbh
  replace hs1 := Lib.hid hs1
  have hle := Lib.hid (own_zero (own_empty W1 5))
  have HH1 := Lib.hid (HH.out.below (by rw [hq.out]; exact hB1))
  go_wp2_with (at_builtin; first
    | (refine app_arm Tryz.E8 _ rfl (.tmp 17) (.tmp 18) rfl (v := .slice (some ⟨W1.heap.size, 0, none⟩) 0 0) rfl hle.out rfl (Src.of_HB (HH1.out.below ((Below.refl _ W1).alloc (Nat.le_refl _) _))) (ints_one _ _) (by omega) (by unfold maxLen; omega) ?_; intro v1 w1 ho1 hg1 _; simp only [Nat.zero_add, List.nil_append] at ho1; obtain ⟨A1, k1, rfl, _, _⟩ := own_shape ho1)
    | (refine app_arm Tryz.E8 _ rfl (.tmp 19) (.tmp 20) rfl rfl (ho1.alloc _) rfl (Src.alloc w1 1 [_] _ 1 rfl) (by simp [Value.oneCell']) (by omega) (by unfold maxLen; omega) ?_; intro v2 w2 ho2 hg2 _; obtain ⟨A2, k2, rfl, _, _⟩ := own_shape ho2))
  have hBa : Below W1.heap.size W1 w1 := ((Below.refl _ W1).alloc (Nat.le_refl _) _).trans (hg1.chg.to_below (by simp) (by intro k hk; simp [Value.ownBlock] at hk; omega))
  have hfr1 : ∀ k, (Value.slice A1 16 k1).ownBlock = some k → W1.heap.size ≤ k := by
    intro k hk
    rcases hg1.at_ with f | f
    · rw [f] at hk; simp [Value.ownBlock] at hk; omega
    · have := f k hk; simp at this; omega
  have hB2 : Below W1.heap.size W1 w2 := hBa.trans (hg2.from_alloc.chg.to_below hBa.size fun q e => hfr1 q e)
  have ho2' : w2.ownsRow W1.heap.size 5 1 (.slice A2 (16 + 1) k2) 17 (ints .u8 (padK bs 0)) := by
    refine own_base (n := 17) (by simpa [padK, ints_append, ints] using ho2) fun q e => ?_
    rcases hg2.from_alloc.at_ with f | f
    · exact hfr1 q (f ▸ e)
    · exact Nat.le_trans hBa.size (f q e)
  replace ho2' := Lib.hid ho2'
  clear ho2 hg2 hg1 ho1 hfr1 hBa hle
  go_loopw [5] (fun u wr => ∃ k : Nat, k ≤ 39 ∧ Below W1.heap.size W1 wr ∧ wr.ownsRow W1.heap.size 5 1 u (17 + k) (ints .u8 (padK bs k))) (fun u _ => match u with | .slice _ n _ => 56 - n | _ => 0)
  case atStart => exact ⟨0, by omega, hB2, ho2'.out⟩
  case round =>
    obtain ⟨k, hk, hB, ho⟩ := hrel
    obtain ⟨Av, cv, rfl, _, _⟩ := own_shape ho
    have HO := Lib.hid ho
    clear ho
    by_cases hlt : k < 39
    · obtain ⟨p, hp⟩ : ∃ p, 17 + k = p := ⟨_, rfl⟩
      rw [hp] at HO ⊢
      have HP := Lib.hid hp
      have hq1 : p < 56 := by omega
      have hrem : Int.tmod (p : Int) 64 = p := Int.tmod_eq_of_lt (by omega) (by omega)
      have hne : ((p : Int) != 56) = true := by simp; omega
      clear hp
      have ho3 := own_zero HO.out
      go_wp2_with (at_builtin; refine app_arm Tryz.E8 _ rfl (.tmp 26) (.tmp 27) rfl (v := .slice Av p cv) rfl (ho3.alloc _) rfl (Src.alloc wr 1 [_] _ 1 rfl) (by simp [Value.oneCell']) (by omega) (by unfold maxLen; omega) ?_; intro v4 w4 ho4 hg4 _; obtain ⟨A4, k4, rfl, _, _⟩ := own_shape ho4)
      refine ⟨⟨k + 1, by omega, hB.trans (hg4.from_alloc.chg.to_below hB.size fun q e => (HO.out.lt q e).1), ?_⟩, by show 56 - (p + 1) < 56 - p; omega⟩
      rw [show 17 + (k + 1) = p + 1 by rw [← HP.out]; omega, padK_succ]
      refine own_base ho4 fun q e => ?_
      rcases hg4.from_alloc.at_ with f | f
      · exact (HO.out.lt q (f ▸ e)).1
      · exact Nat.le_trans hB.size (f q e)
    · obtain rfl : k = 39 := by omega
      rw [show 17 + 39 = 56 from rfl] at HO ⊢
      have hp0 := Lib.hid (own_zero HO.out)
      have hpl := Lib.hid (padK_length bs 39)
      go_wp2_with fail
      refine (refNum_any 128 8 wr (by omega) (by omega) (by omega)).mono ?_
      rintro e w5 ⟨v5, rfl, ho5, hB5⟩
      obtain ⟨A5, c5, rfl, _, _⟩ := own_shape ho5
      have hH5 := Lib.hid (HB.of_own ho5 (putL_range _ _) (by rw [putL_length]; omega))
      replace hp0 := Lib.hid (own_below hp0.out hB5)
      have hBw5 := hB.trans (hB5.mono hB.size)
      clear ho5
      go_wp2_with (at_builtin; refine app_arm Tryz.E8 _ rfl (.tmp 29) (.tmp 34) rfl rfl hp0.out rfl (Src.of_HB hH5.out) (ints_one _ _) (by omega) (by unfold maxLen; omega) ?_; intro v6 w6 ho6 hg6 _; obtain ⟨A6, c6, rfl, h61, h62⟩ := own_shape ho6)
      have hB6 : Below W1.heap.size W1 w6 := hBw5.trans (hg6.chg.to_below hBw5.size fun q e => (HO.out.lt q e).1)
      rw [← ints_append] at ho6
      change w6.ownsRow 0 5 1 _ 64 (ints .u8 (pad16 bs)) at ho6
      have hHB := HB.of_own ho6 (by
        intro x hx
        rcases List.mem_append.1 hx with h | h
        · exact padK_range hr.out 39 x h
        · exact putL_range _ _ x h) (by rw [pad16, List.length_append, padK_length, putL_length, HL.out]; omega)
      obtain ⟨g, _, rfl, _⟩ := own_pos ho6 (by omega)
      have hPL : Hid ((pad16 bs).length = 64) := Lib.hid (by rw [pad16, List.length_append, padK_length, putL_length, HL.out])
      have hk6 := Lib.hid (below_blk hB6 hbk.out)
      have hh6 := Lib.hid (below_blk hB6 hbh.out)
      have hBw6 : Below q w w6 := hB1.trans (hB6.mono (by rw [hs1.out]; omega))
      have hq6 : q + 2 ≤ w6.heap.size := by have := hB6.size; rw [hs1.out] at this; exact this
      replace hHB := Lib.hid hHB
      clear hp0 hg6 hpl HO hB hlt hk ho2' ho6 hH5 hBw5 hB5 hB6 hB2 hbk hbh hs1
      go_wp2_with fail
      have GE : ∀ (W : World), Below w6.heap.size w6 W → ∀ k, k < 16 → Calls Tryz.prog 128 #[.slice (some ⟨g, 4 * k, none⟩) 4 (c6 - 4 * k)] W fun e w' => e = .returned (.int .u64 (getN (((pad16 bs).drop (4 * k)).take 4))) ∧ W = w' := by
        intro W hB k hk
        have := (hHB.out.below hB).sub (4 * k) (4 * k + 4) (c6 - 4 * k) (by omega) (by omega) (by omega) (by omega) (A' := some ⟨g, 4 * k, none⟩) (fun _ b' o' e => by cases e; simp)
        rw [Nat.add_sub_cancel_left] at this
        exact refRead_any _ _ W this (by simp; omega)
      have GR := fun k => getN_nonneg (((pad16 bs).drop (4 * k)).take 4) (fun x hx => hHB.out.range x (List.mem_of_mem_drop (List.mem_of_mem_take hx)))
      replace GE := Lib.hid GE
      replace GR := Lib.hid GR
      go_loopw [6] (fun i wr => (i = .int .i64 0 ∧ wr = w6) ∨ (i = .int .i64 64 ∧ Below q w wr ∧ RowU 206 wr (q + 1) (takeL ivL (pad16 bs)))) (fun i _ => 64 - (intOf i).toNat)
      case atStart => exact .inl ⟨rfl, rfl⟩
      case round =>
      rcases hrel with ⟨rfl, rfl⟩ | ⟨rfl, hB7, hrow7⟩
      case inl =>
        obtain ⟨wo, rfl⟩ : ∃ wo : World, wo = wr := ⟨_, rfl⟩
        have hq7 : q + 1 < wo.heap.size := by omega
        obtain ⟨V, hV⟩ : ∃ V, (ints .u32 ivL).toArray = V := ⟨_, rfl⟩
        have hVs : Hid (V.size = 8) := Lib.hid (by rw [← hV]; rfl)
        have hVi : Hid ((Tryz.prog.info? 206).map (·.size) = some V.size) := Lib.hid (by rw [hVs.out]; kernel_rfl)
        have hV1 : Hid (V.all (·.oneCell') = true) := Lib.hid (by rw [← hV, Array.all_eq_true_iff_forall_mem]; intro x hx; exact ints_one _ _ x (by simpa using hx))
        have hh7 := hh6.out
        unfold RowU at hh7
        rw [hV] at hh7
        replace hh7 := Lib.hid hh7
        replace hV := Lib.hid hV
        go_wp2_with (first
          | (refine wpList_load_row rfl 206 (.tmp 4) rfl (q + 1) rfl 206 V (0, 0) _ (blk_alloc hh7.out _) Tryz.underlying206 rfl hVi.out ?_)
          | (refine wpList_store_row rfl 206 (.tmp 8) (.tmp 42) rfl (wo.heap.size + 1) V rfl rfl 206 _ (heap_alloc2_new wo _ _) hVi.out (by rw [hVs.out]; rfl) hV1.out ?_))
        obtain ⟨W2, hW2⟩ : ∃ W, ((wo.alloc (.cells #[Value.int .u32 0, Value.int .u32 0, Value.int .u32 0, Value.int .u32 0, Value.int .u32 0, Value.int .u32 0, Value.int .u32 0, Value.int .u32 0, Value.int .u32 0, Value.int .u32 0, Value.int .u32 0, Value.int .u32 0, Value.int .u32 0, Value.int .u32 0, Value.int .u32 0, Value.int .u32 0, Value.int .u32 0, Value.int .u32 0, Value.int .u32 0, Value.int .u32 0, Value.int .u32 0, Value.int .u32 0, Value.int .u32 0, Value.int .u32 0, Value.int .u32 0, Value.int .u32 0, Value.int .u32 0, Value.int .u32 0, Value.int .u32 0, Value.int .u32 0, Value.int .u32 0, Value.int .u32 0, Value.int .u32 0, Value.int .u32 0, Value.int .u32 0, Value.int .u32 0, Value.int .u32 0, Value.int .u32 0, Value.int .u32 0, Value.int .u32 0, Value.int .u32 0, Value.int .u32 0, Value.int .u32 0, Value.int .u32 0, Value.int .u32 0, Value.int .u32 0, Value.int .u32 0, Value.int .u32 0, Value.int .u32 0, Value.int .u32 0, Value.int .u32 0, Value.int .u32 0, Value.int .u32 0, Value.int .u32 0, Value.int .u32 0, Value.int .u32 0, Value.int .u32 0, Value.int .u32 0, Value.int .u32 0, Value.int .u32 0, Value.int .u32 0, Value.int .u32 0, Value.int .u32 0, Value.int .u32 0] 205)).alloc (.cells #[Value.int .u32 0, Value.int .u32 0, Value.int .u32 0, Value.int .u32 0, Value.int .u32 0, Value.int .u32 0, Value.int .u32 0, Value.int .u32 0] 206)).setRow (wo.heap.size + 1) V = W := ⟨_, rfl⟩
        rw [hW2]
        have hw0 : RowU 205 W2 wo.heap.size (wideK (pad16 bs) 0) := by unfold RowU; rw [← hW2, setRow_other _ _ _ _ (by omega)]; exact blk_alloc (heap_alloc_new wo _) _
        have hs0 : RowU 206 W2 (wo.heap.size + 1) ivL := by unfold RowU; rw [← hW2, hV.out]; exact setRow_heap _ _ _ _ _ _ (heap_alloc2_new wo _ _)
        have hB2 : Below wo.heap.size wo W2 := by rw [← hW2]; exact below_setRow (((Below.refl _ wo).alloc (Nat.le_refl _) _).alloc (by simp) _) (by omega) _
        clear hV hVs hVi hV1 hh7
        clear hW2
        obtain ⟨r, hr6⟩ : ∃ r, wo.heap.size = r := ⟨_, rfl⟩
        rw [hr6] at hw0 hs0 hB2 hq6 GE ⊢
        replace hw0 := Lib.hid hw0
        replace hs0 := Lib.hid hs0
        replace hr6 := Lib.hid hr6
        have hk2 := Lib.hid (below_blk (by rw [hr6.out]; exact hB2) hk6.out)
        go_loopw [9] (fun i wr => ∃ k : Nat, k ≤ 64 ∧ i = .int .i64 k ∧ RowU 205 wr r (wideK (pad16 bs) k) ∧ U32 (wideK (pad16 bs) k) ∧ RowU 206 wr (r + 1) (takeK ivL (wideK (pad16 bs) 64) k) ∧ Chg (fun j => j = r ∨ j = r + 1) W2 wr) (fun i _ => 64 - (intOf i).toNat)
        case atStart => exact ⟨0, by omega, rfl, hw0.out, fun x hx => by simp [wideK] at hx; omega, hs0.out, Chg.refl _ _⟩
        case round =>
        obtain ⟨k, hk, rfl, hrow, hu, hst, hch⟩ := hrel
        by_cases hlt : k < 64
        case pos =>
          have R7 : Hid (∀ (v : Int) (W : World), 0 ≤ v ∧ v ≤ 4294967295 → Calls Tryz.prog 161 #[.int .u32 v, .int .u64 7] W fun e w' => e = .returned (.int .u32 (rotN v 7)) ∧ ∃ m, w' = W.drewN m) := Lib.hid fun v W h => rot_any v 7 W h (by omega)
          have R18 : Hid (∀ (v : Int) (W : World), 0 ≤ v ∧ v ≤ 4294967295 → Calls Tryz.prog 161 #[.int .u32 v, .int .u64 18] W fun e w' => e = .returned (.int .u32 (rotN v 18)) ∧ ∃ m, w' = W.drewN m) := Lib.hid fun v W h => rot_any v 18 W h (by omega)
          have R17 : Hid (∀ (v : Int) (W : World), 0 ≤ v ∧ v ≤ 4294967295 → Calls Tryz.prog 161 #[.int .u32 v, .int .u64 17] W fun e w' => e = .returned (.int .u32 (rotN v 17)) ∧ ∃ m, w' = W.drewN m) := Lib.hid fun v W h => rot_any v 17 W h (by omega)
          have R19 : Hid (∀ (v : Int) (W : World), 0 ≤ v ∧ v ≤ 4294967295 → Calls Tryz.prog 161 #[.int .u32 v, .int .u64 19] W fun e w' => e = .returned (.int .u32 (rotN v 19)) ∧ ∃ m, w' = W.drewN m) := Lib.hid fun v W h => rot_any v 19 W h (by omega)
          have R6 : Hid (∀ (v : Int) (W : World), 0 ≤ v ∧ v ≤ 4294967295 → Calls Tryz.prog 161 #[.int .u32 v, .int .u64 6] W fun e w' => e = .returned (.int .u32 (rotN v 6)) ∧ ∃ m, w' = W.drewN m) := Lib.hid fun v W h => rot_any v 6 W h (by omega)
          have R11 : Hid (∀ (v : Int) (W : World), 0 ≤ v ∧ v ≤ 4294967295 → Calls Tryz.prog 161 #[.int .u32 v, .int .u64 11] W fun e w' => e = .returned (.int .u32 (rotN v 11)) ∧ ∃ m, w' = W.drewN m) := Lib.hid fun v W h => rot_any v 11 W h (by omega)
          have R25 : Hid (∀ (v : Int) (W : World), 0 ≤ v ∧ v ≤ 4294967295 → Calls Tryz.prog 161 #[.int .u32 v, .int .u64 25] W fun e w' => e = .returned (.int .u32 (rotN v 25)) ∧ ∃ m, w' = W.drewN m) := Lib.hid fun v W h => rot_any v 25 W h (by omega)
          have R2 : Hid (∀ (v : Int) (W : World), 0 ≤ v ∧ v ≤ 4294967295 → Calls Tryz.prog 161 #[.int .u32 v, .int .u64 2] W fun e w' => e = .returned (.int .u32 (rotN v 2)) ∧ ∃ m, w' = W.drewN m) := Lib.hid fun v W h => rot_any v 2 W h (by omega)
          have R13 : Hid (∀ (v : Int) (W : World), 0 ≤ v ∧ v ≤ 4294967295 → Calls Tryz.prog 161 #[.int .u32 v, .int .u64 13] W fun e w' => e = .returned (.int .u32 (rotN v 13)) ∧ ∃ m, w' = W.drewN m) := Lib.hid fun v W h => rot_any v 13 W h (by omega)
          have R22 : Hid (∀ (v : Int) (W : World), 0 ≤ v ∧ v ≤ 4294967295 → Calls Tryz.prog 161 #[.int .u32 v, .int .u64 22] W fun e w' => e = .returned (.int .u32 (rotN v 22)) ∧ ∃ m, w' = W.drewN m) := Lib.hid fun v W h => rot_any v 22 W h (by omega)
          have hsz := wideK_length (pad16 bs) k
          have hfz := hrow.frozen k
          have hck := hrow.cell k (by rw [hsz]; exact hlt)
          have hkI : (k : Int) < 64 := by omega
          have hBx : Below r wo wr := hB2.trans (hch.to_below (by rw [← hr6.out]; exact hB2.size) (fun j e => by omega))
          by_cases h16 : k < 16
          case' pos =>
            have GK := GE.out wr hBx k h16
            have GR1 := GR.out k
            have hw : wval (pad16 bs) (wideK (pad16 bs) k) k = getN (((pad16 bs).drop (4 * k)).take 4) % 4294967296 := by rw [wval, if_pos h16]
            have HW := Lib.hid hw
            have HROW := Lib.hid hrow
            have HU := Lib.hid hu
            have HST := Lib.hid hst
            have hc6a : (4 : Int) * k + 4 ≤ 64 := by omega
            clear hw hrow hu hst
            generalize (wideK (pad16 bs) k)[k]?.getD 0 = z0 at *
            generalize getN (((pad16 bs).drop (4 * k)).take 4) = x at *
            go_wp2_with fail
            refine GK.mono ?_
            rintro e w' ⟨rfl, rfl⟩
            go_upto_region 18 with (fail)
            obtain ⟨W3, hW3⟩ : ∃ W, wr.setCell ⟨r, k, none⟩ (.int .u32 (x % 4294967296)) = W := ⟨_, rfl⟩
            rw [hW3]
            have hw3 : RowU 205 W3 r (wideK (pad16 bs) (k + 1)) := by rw [wideK, HW.out, ← hW3]; exact HROW.out.set k _
            have hu3 : U32 (wideK (pad16 bs) (k + 1)) := by rw [wideK, HW.out]; exact HU.out.set k _ (by omega)
            have hs3 : RowU 206 W3 (r + 1) (takeK ivL (wideK (pad16 bs) 64) k) := by unfold RowU; rw [← hW3]; exact blk_setCell_ne HST.out (by simp) _
            have hch3 : Chg (fun j => j = r ∨ j = r + 1) W2 W3 := by rw [← hW3]; exact hch.then_setCell (a := ⟨r, k, none⟩) (.inl (.inl rfl)) _
            clear hW3 GK GR1 HW HROW HU HST hc6a hfz hck hch hBx
          case' neg =>
            obtain ⟨p1, hp1⟩ : ∃ p1, p1 = k - 15 := ⟨_, rfl⟩
            obtain ⟨p2, hp2⟩ : ∃ p2, p2 = k - 2 := ⟨_, rfl⟩
            obtain ⟨p3, hp3⟩ : ∃ p3, p3 = k - 16 := ⟨_, rfl⟩
            obtain ⟨p4, hp4⟩ : ∃ p4, p4 = k - 7 := ⟨_, rfl⟩
            have c1 := hrow.cell p1 (by omega)
            have c2 := hrow.cell p2 (by omega)
            have c3 := hrow.cell p3 (by omega)
            have c4 := hrow.cell p4 (by omega)
            have r1 := hu.at_ p1
            have r2 := hu.at_ p2
            have r3 := hu.at_ p3
            have r4 := hu.at_ p4
            have hw : wval (pad16 bs) (wideK (pad16 bs) k) k = wmix ((wideK (pad16 bs) k)[p3]?.getD 0) ((wideK (pad16 bs) k)[p4]?.getD 0) ((wideK (pad16 bs) k)[p1]?.getD 0) ((wideK (pad16 bs) k)[p2]?.getD 0) := by
              rw [wval, if_neg h16, hp1, hp2, hp3, hp4]
            have e1 : IntKind.i64.wrap ((k : Int) - 15) = (p1 : Int) := by rw [show (k : Int) - 15 = (p1 : Int) by omega]; exact IntWalk.i64_in _ (by omega)
            have e2 : IntKind.i64.wrap ((k : Int) - 2) = (p2 : Int) := by rw [show (k : Int) - 2 = (p2 : Int) by omega]; exact IntWalk.i64_in _ (by omega)
            have e3 : IntKind.i64.wrap ((k : Int) - 16) = (p3 : Int) := by rw [show (k : Int) - 16 = (p3 : Int) by omega]; exact IntWalk.i64_in _ (by omega)
            have e4 : IntKind.i64.wrap ((k : Int) - 7) = (p4 : Int) := by rw [show (k : Int) - 7 = (p4 : Int) by omega]; exact IntWalk.i64_in _ (by omega)
            have b1 : p1 < 64 := by omega
            have b2 : p2 < 64 := by omega
            have b3 : p3 < 64 := by omega
            have b4 : p4 < 64 := by omega
            have i1 : (p1 : Int) < 64 := by omega
            have i2 : (p2 : Int) < 64 := by omega
            have i3 : (p3 : Int) < 64 := by omega
            have i4 : (p4 : Int) < 64 := by omega
            have HW := Lib.hid hw
            have HROW := Lib.hid hrow
            have HU := Lib.hid hu
            have HST := Lib.hid hst
            clear hw hrow hu hst hp1 hp2 hp3 hp4 hsz
            generalize (wideK (pad16 bs) k)[k]?.getD 0 = z0 at *
            generalize (wideK (pad16 bs) k)[p1]?.getD 0 = x1 at *
            generalize (wideK (pad16 bs) k)[p2]?.getD 0 = x2 at *
            generalize (wideK (pad16 bs) k)[p3]?.getD 0 = x3 at *
            generalize (wideK (pad16 bs) k)[p4]?.getD 0 = x4 at *
            go_upto_region 17 with (fail)
            refine region_quiet_tail 46 (by kernel_rfl) (by kernel_rfl) ?_
            simp only [List.take_succ_cons, List.take_zero, List.drop_succ_cons, List.drop_zero]
            repeat (quiet_step ((go_at_call 161; first | with_reducible exact quiet_one (R7.out _ _ r1) | with_reducible exact quiet_one (R18.out _ _ r1) | with_reducible exact quiet_one (R17.out _ _ r2) | with_reducible exact quiet_one (R19.out _ _ r2))))
            refine wpQuiet_nil ?_
            intro _ hw'
            obtain ⟨nq, hw''⟩ := hw'
            subst hw''
            go_upto_region 18 with (fail)
            obtain ⟨W3, hW3⟩ : ∃ W, (wr.drewN nq).setCell ⟨r, k, none⟩ (.int .u32 (wmix x3 x4 x1 x2)) = W := ⟨_, rfl⟩
            have hW4 : ((((x3 + x4) % 4294967296 + bits BinOp.xor IntKind.u32 (bits BinOp.xor IntKind.u32 (rotN x1 7) (rotN x1 18)) (x1 / 8)) % 4294967296 + bits BinOp.xor IntKind.u32 (bits BinOp.xor IntKind.u32 (rotN x2 17) (rotN x2 19)) (x2 / 1024)) % 4294967296) = wmix x3 x4 x1 x2 := by unfold wmix; omega
            rw [hW4, hW3]
            have hw3 : RowU 205 W3 r (wideK (pad16 bs) (k + 1)) := by rw [wideK, HW.out, ← hW3]; exact RowU.set (w := wr.drewN nq) HROW.out k _
            have hu3 : U32 (wideK (pad16 bs) (k + 1)) := by rw [wideK, HW.out]; exact HU.out.set k _ (wmix_range _ _ _ _)
            have hs3 : RowU 206 W3 (r + 1) (takeK ivL (wideK (pad16 bs) 64) k) := by unfold RowU; rw [← hW3]; exact blk_setCell_ne (w := wr.drewN nq) HST.out (by simp) _
            have hch3 : Chg (fun j => j = r ∨ j = r + 1) W2 W3 := by rw [← hW3]; exact (hch.then_drewN nq).then_setCell (a := ⟨r, k, none⟩) (.inl (.inl rfl)) _
            clear hW3 hW4 HW HROW HU HST hfz hck hch hBx e1 e2 e3 e4
          all_goals
            clear GE GR hk hh6 HH1 hHB hPL HL hr HH hkI
            obtain ⟨t0, t1, t2, t3, t4, t5, t6, t7, htt⟩ := eight _ (takeK_ok ivL (wideK (pad16 bs) 64) ivL_ok.1 ivL_ok.2 k).1
            have htu := (takeK_ok ivL (wideK (pad16 bs) 64) ivL_ok.1 ivL_ok.2 k).2
            rw [htt] at hs3 htu
            have u0 := htu t0 (by simp)
            have u1 := htu t1 (by simp)
            have u2 := htu t2 (by simp)
            have u4 := htu t4 (by simp)
            have u5 := htu t5 (by simp)
            have u6 := htu t6 (by simp)
            have hs3' := hs3
            unfold RowU at hs3'
            have d0 : W3.cell? ⟨r + 1, 0, none⟩ = some (.int .u32 t0) := by rw [cell_of_blk hs3']; rfl
            have d1 : W3.cell? ⟨r + 1, 1, none⟩ = some (.int .u32 t1) := by rw [cell_of_blk hs3']; rfl
            have d2 : W3.cell? ⟨r + 1, 2, none⟩ = some (.int .u32 t2) := by rw [cell_of_blk hs3']; rfl
            have d3 : W3.cell? ⟨r + 1, 3, none⟩ = some (.int .u32 t3) := by rw [cell_of_blk hs3']; rfl
            have d4 : W3.cell? ⟨r + 1, 4, none⟩ = some (.int .u32 t4) := by rw [cell_of_blk hs3']; rfl
            have d5 : W3.cell? ⟨r + 1, 5, none⟩ = some (.int .u32 t5) := by rw [cell_of_blk hs3']; rfl
            have d6 : W3.cell? ⟨r + 1, 6, none⟩ = some (.int .u32 t6) := by rw [cell_of_blk hs3']; rfl
            have d7 : W3.cell? ⟨r + 1, 7, none⟩ = some (.int .u32 t7) := by rw [cell_of_blk hs3']; rfl
            have dk : W3.cell? ⟨q, k, none⟩ = some (.int .u32 (turnsL[k]?.getD 0)) := RowU.cell (t := 205) (hch3.blk hk2.out (by omega)) k hlt
            have dw : W3.cell? ⟨r, k, none⟩ = some (.int .u32 ((wideK (pad16 bs) (k + 1))[k]?.getD 0)) := hw3.cell k (by rw [wideK_length]; exact hlt)
            rw [wideK_at _ _ hlt] at dw
            have hkI : (0 : Int) ≤ k ∧ (k : Int) < 64 := by omega
            have hnx : takeK ivL (wideK (pad16 bs) 64) (k + 1) = roundL [t0, t1, t2, t3, t4, t5, t6, t7] (((wideK (pad16 bs) 64)[k]?.getD 0 + turnsL[k]?.getD 0) % 4294967296) := by rw [takeK, htt]
            replace hnx := Lib.hid hnx
            have HW3 := Lib.hid hw3
            have HU3 := Lib.hid hu3
            have HS3 := Lib.hid hs3'
            have HCH := Lib.hid hch3
            clear hw3 hu3 hs3 hs3' htt htu hch3
            generalize (wideK (pad16 bs) 64)[k]?.getD 0 = y at *
            generalize turnsL[k]?.getD 0 = z at *
            go_quiet ((go_at_call 161; first | with_reducible exact quiet_one (R6.out _ _ u4) | with_reducible exact quiet_one (R11.out _ _ u4) | with_reducible exact quiet_one (R25.out _ _ u4)))
            go_wp2_with fail
            have e10 := x_up t4 t5 t6 t7 z y u4 u5 u6
            have x10 := upN_range t4 t5 t6 t7 ((y + z) % 4294967296)
            obtain ⟨X, hX⟩ : ∃ X, upN t4 t5 t6 t7 ((y + z) % 4294967296) = X := ⟨_, rfl⟩
            rw [hX] at e10 x10
            rw [e10]
            replace hX := Lib.hid hX
            clear e10
            go_quiet ((go_at_call 161; first | with_reducible exact quiet_add (R2.out _ _ u0) | with_reducible exact quiet_add (R13.out _ _ u0) | with_reducible exact quiet_add (R22.out _ _ u0)))
            go_upto_region 20 with (fail)
            have e11 := yN_on t0 t1 t2 u0 u1 u2
            unfold yN at e11
            have x11 := onN_range t0 t1 t2
            obtain ⟨Y, hY⟩ : ∃ Y, onN t0 t1 t2 = Y := ⟨_, rfl⟩
            rw [hY] at e11 x11
            have e12 := e11
            rw [← IntKind.wrap_u32] at e12
            first | rw [e11] | rw [e12]
            replace hY := Lib.hid hY
            clear e11 e12
            have hI8 : Hid ((Tryz.prog.info? 206).map (·.size) = some 8) := Lib.hid (by kernel_rfl)
            go_wp2_with (refine wpList_store_row rfl 206 (.tmp 8) (.tmp 194) rfl (r + 1) _ rfl rfl 206 _ HS3.out hI8.out rfl (by simp [Value.oneCell']) ?_)
            refine ⟨⟨k + 1, by omega, by go_num, ?_, HU3.out, ?_, ?_⟩, by simp [intOf]; omega⟩
            · unfold RowU; rw [setRow_other _ _ _ _ (by omega)]; exact HW3.out
            · unfold RowU
              rw [hnx.out]
              refine (setRow_heap _ _ _ _ _ _ HS3.out).trans ?_
              rw [← hX.out, ← hY.out]; rfl
            · exact ⟨HCH.out.os, HCH.out.tape, HCH.out.output, by simpa [World.setRow] using HCH.out.size, fun j hj hn => (setRow_other _ _ _ _ (fun e => hn (.inr e))).trans (HCH.out.block j hj hn)⟩
        case neg =>
        obtain rfl : k = 64 := by omega
        have hHq := Lib.hid (hch.blk (below_blk (by rw [hr6.out]; exact hB2) hh6.out) (by omega))
        obtain ⟨T, hT⟩ : ∃ T, takeK ivL (wideK (pad16 bs) 64) 64 = T := ⟨_, rfl⟩
        have hTl := (takeK_ok ivL (wideK (pad16 bs) 64) ivL_ok.1 ivL_ok.2 64)
        rw [hT] at hst hTl
        have hTk := sumK_take ivL (pad16 bs) ivL_ok.1
        rw [hT] at hTk
        have HTk := Lib.hid hTk
        have HTl := Lib.hid hTl
        have HST := Lib.hid hst
        have hBx : Below r wo wr := hB2.trans (hch.to_below (by rw [← hr6.out]; exact hB2.size) (fun j e => by omega))
        have hrsz : r + 1 < wr.heap.size := blk_lt hst
        clear hT hrow hu hst hch hTk hTl GE GR
        go_wp2_with fail
        obtain ⟨w8, rfl⟩ : ∃ x : World, x = wr := ⟨_, rfl⟩
        go_loopw [12] (fun i wx => ∃ j : Nat, j ≤ 8 ∧ i = .int .i64 j ∧ RowU 206 wx (q + 1) (sumK ivL T j) ∧ Chg (fun j => j = q + 1) w8 wx) (fun i _ => 8 - (intOf i).toNat)
        case atStart => exact ⟨0, by omega, rfl, by rw [sumK_zero]; exact hHq.out, Chg.refl _ _⟩
        case round =>
        obtain ⟨j, hj, rfl, hrow, hch⟩ := hrel
        by_cases hlj : j < 8
        case pos =>
          have hst := sumK_set ivL T j
          have hj1 := hrow.cell j (by rw [sumK_length, ivL_ok.1]; exact hlj)
          rw [sumK_get _ _ _ (by rw [ivL_ok.1]; exact hlj)] at hj1
          have hj2 : wr.cell? ⟨r + 1, j, none⟩ = some (.int .u32 (T[j]?.getD 0)) := RowU.cell (t := 206) (hch.blk HST.out (by omega)) j (by rw [HTl.out.1]; exact hlj)
          have hfz := hrow.frozen j
          have hjI : (0 : Int) ≤ j ∧ (j : Int) < 8 := by omega
          have HST2 := Lib.hid hst
          have HR := Lib.hid hrow
          clear hst hrow
          generalize T[j]?.getD 0 = y at *
          generalize ivL[j]?.getD 0 = z at *
          go_wp2_with fail
          refine region_quiet_tail 8 (by kernel_rfl) (by kernel_rfl) ?_
          simp only [List.take_succ_cons, List.take_zero, List.drop_succ_cons, List.drop_zero]
          repeat (quiet_step (fail))
          refine wpQuiet_nil ?_
          intro _ hw'
          obtain ⟨nq, hw''⟩ := hw'
          subst hw''
          go_wp2
          refine ⟨⟨_, _, _, _, _, _, _, _, _, _, _, _, _, _, ⟨j + 1, by omega, by go_num, ?_, (hch.then_drewN nq).then_setCell (a := ⟨q + 1, j, none⟩) (.inl rfl) _⟩, rfl⟩, ?_⟩
          · rw [← HST2.out]; exact RowU.set (w := wr.drewN nq) HR.out j _
          · simp [intOf]; omega
        case neg =>
          obtain rfl : j = 8 := by omega
          rw [HTk.out] at hrow
          replace hrow := Lib.hid hrow
          have hBz := (hBw6.trans (hBx.mono (by omega))).trans (hch.to_below (by rw [← hr6.out] at hrsz; have := hBx.size; omega) (fun j e => by omega))
          go_wp2
          exact ⟨.inr ⟨rfl, hBz, hrow.out⟩, by simp [intOf]⟩
      case inr =>
      obtain ⟨S, hS⟩ : ∃ S, takeL ivL (pad16 bs) = S := ⟨_, rfl⟩
      have hfin : sum16 bs = outL S := by rw [sum16, hS]
      have hTR := takeL_ok ivL (pad16 bs)
      rw [hS] at hrow7 hTR
      have HROW := Lib.hid hrow7
      have HTR := Lib.hid hTR
      replace hfin := Lib.hid hfin
      obtain ⟨w8, rfl⟩ : ∃ x : World, x = wr := ⟨_, rfl⟩
      have hqlt : q + 1 < w8.heap.size := blk_lt hrow7
      clear hS hrow7 hTR GE GR hh6 hk6 hHB HH HH1
      go_wp2_with fail
      go_loopw [13, 14] (fun u i wr => ∃ j : Nat, j ≤ 8 ∧ i = .int .i64 j ∧ Below w8.heap.size w8 wr ∧ wr.ownsRow w8.heap.size 5 1 u (4 * j) (ints .u8 (outL (S.take j)))) (fun _ i _ => 8 - (intOf i).toNat)
      case atStart => exact ⟨0, by omega, rfl, Below.refl _ _, World.ownsRow_nil _ _ _ _⟩
      case round =>
      obtain ⟨j, hj, rfl, hB, ho⟩ := hrel
      obtain ⟨Av, cv, rfl, _, _⟩ := own_shape ho
      by_cases hlt : j < 8
      case pos =>
        have hx : wr.cell? ⟨q + 1, j, none⟩ = some (.int .u32 (S[j]?.getD 0)) := RowU.cell (t := 206) (below_blk hB HROW.out) j (by rw [HTR.out.1]; exact hlt)
        have hsn : outL (S.take (j + 1)) = outL (S.take j) ++ putL (S[j]?.getD 0) 4 := by
          rw [take_snoc S j (by rw [HTR.out.1]; exact hlt) 0, outL_snoc]
        have hr0 := HTR.out.2.at_ j
        have hjI : (0 : Int) ≤ j ∧ (j : Int) < 8 := by omega
        have HSN := Lib.hid hsn
        have HO := Lib.hid ho
        clear hsn ho
        generalize S[j]?.getD 0 = y at *
        go_wp2_with fail
        refine (refNum_any y 4 wr (by omega) (by omega) (by omega)).mono ?_
        rintro e w9 ⟨v9, rfl, ho9, hB9⟩
        obtain ⟨A9, c9, rfl, _, _⟩ := own_shape ho9
        have hH9 := Lib.hid (HB.of_own ho9 (putL_range _ _) (by rw [putL_length]; omega))
        have hO9 := Lib.hid (own_below HO.out hB9)
        have hBw9 := hB.trans (hB9.mono hB.size)
        clear ho9
        go_wp2_with (at_builtin; refine app_arm Tryz.E8 _ rfl (.tmp 212) (.tmp 217) rfl rfl (own_zero hO9.out) rfl (Src.of_HB hH9.out) (ints_one _ _) (by omega) (by unfold maxLen; omega) ?_; intro va wa hoa hga _; obtain ⟨Aa, ca, rfl, _, _⟩ := own_shape hoa)
        refine ⟨⟨j + 1, by omega, by go_num, hBw9.trans (hga.chg.to_below hBw9.size fun q e => (HO.out.lt q e).1), ?_⟩, by simp [intOf]; omega⟩
        rw [HSN.out, ints_append]
        refine own_base hoa fun q e => ?_
        rcases hga.at_ with f | f
        · exact (HO.out.lt q (f ▸ e)).1
        · exact Nat.le_trans hBw9.size (f q e)
      case neg =>
        obtain rfl : j = 8 := by omega
        rw [List.take_of_length_le (by rw [HTR.out.1]; exact Nat.le_refl _)] at ho
        replace ho := Lib.hid ho
        go_wp2
        go_ret
        rw [hfin.out]
        rw [hq.out]
        have h7 : q ≤ w8.heap.size := by rw [← hq.out]; exact hB7.size
        exact ⟨_, rfl, own_base ho.out fun k e => Nat.le_trans h7 (ho.out.lt k e).1, hB7.trans (hB.mono h7)⟩
end Go.Proofs.YtblddkjdglliaaaGreatDoor
