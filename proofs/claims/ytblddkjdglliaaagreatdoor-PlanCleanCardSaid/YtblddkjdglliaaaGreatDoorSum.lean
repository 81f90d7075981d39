/- Contracts: hash.Sum (of sixteen bytes), hash.Weight. Conditions: hash.turns holds its numbers. -/
import Derived.Test.YtblddkjdglliaaaGreatDoorTake
namespace Go.Proofs.YtblddkjdglliaaaGreatDoor
open Go.RowKit

def ivL : List Int := [1779033703, 3144134277, 1013904242, 2773480762, 1359893119, 2600822924, 528734635, 1541459225]
def padK (bs : List Int) (k : Nat) : List Int := bs ++ [128] ++ List.replicate k 0
def pad16 (bs : List Int) : List Int := padK bs 39 ++ putL 128 8
def outL (s : List Int) : List Int := s.flatMap fun v => putL v 4
def sum16 (bs : List Int) : List Int := outL (takeL ivL (pad16 bs))
def weightL (s d : Int) : Int := getN ((sum16 (putL s 8 ++ putL d 8)).take 8)
theorem ivL_ok : ivL.length = 8 ∧ U32 ivL := by refine ⟨rfl, ?_⟩; unfold U32 ivL; decide
theorem padK_succ (bs : List Int) (k : Nat) : ints .u8 (padK bs (k + 1)) = ints .u8 (padK bs k) ++ [.int .u8 0] := by
  unfold padK
  rw [List.replicate_succ', ← List.append_assoc, ints_append]; rfl
theorem padK_range {bs : List Int} (h : ∀ x ∈ bs, 0 ≤ x ∧ x ≤ 255) (k : Nat) : ∀ x ∈ padK bs k, 0 ≤ x ∧ x ≤ 255 := by
  intro x hx
  simp only [padK, List.mem_append, List.mem_singleton, List.mem_replicate] at hx
  rcases hx with (hx | rfl) | ⟨_, rfl⟩
  · exact h x hx
  · omega
  · omega
theorem padK_length (bs : List Int) (k : Nat) : (padK bs k).length = bs.length + 1 + k := by simp [padK]; omega
theorem outL_snoc (s : List Int) (v : Int) : outL (s ++ [v]) = outL s ++ putL v 4 := by simp [outL, List.flatMap_append]
theorem outL_length (s : List Int) : (outL s).length = 4 * s.length := by
  induction s with
  | nil => rfl
  | cons a s ih => simp only [outL, List.flatMap_cons, List.length_append, putL_length, List.length_cons] at *; omega
theorem outL_range (s : List Int) : ∀ x ∈ outL s, 0 ≤ x ∧ x ≤ 255 := by
  intro x hx
  simp only [outL, List.mem_flatMap] at hx
  obtain ⟨v, _, hx⟩ := hx
  exact putL_range _ _ x hx
theorem run_idx8 (X : Array Value) (hX : X.size = 8) (k : Nat) (hk : k < 8) (y : Int) (h : X[k]? = some (.int .u32 y)) (W : World) :
    Sem.run Tryz.prog (Instr.index 225 (.agg X) (.int .i64 k)) W = .ok (.int .u32 y) W := by
  have e : X.extract k (k + 1) = #[.int .u32 y] := by
    apply Array.ext_getElem?
    intro i
    rw [Array.getElem?_extract]
    cases i with
    | zero => simp [h]; omega
    | succ i => simp; omega
  have hk3 : (0 : Int) ≤ k ∧ (k : Int) < 8 := by omega
  have b : (sizeOf 146).run Tryz.prog W = .ok 1 W := Tryz.sizeOf146 W
  have a : (isAgg 146).run Tryz.prog W = .ok false W := Tryz.isAgg146 W
  simp [Instr.index, run_underlying Tryz.underlying225, asIntOf, go_sem, a, b, hk3, h, e, hX]
  intro h64
  omega

set_option maxRecDepth 100000 in
set_option maxHeartbeats 2000000 in
theorem sum16_any (v : Value) (bs : List Int) (w : World) (h : HB w v bs) (hl : bs.length = 16) (hT : Turns w) :
    Calls Tryz.prog 157 #[v] w fun e w' => ∃ v', e = .returned v' ∧ w'.ownsRow w.heap.size 5 1 v' 32 (ints .u8 (sum16 bs)) ∧ Below w.heap.size w w' := by
  obtain ⟨A, c, rfl, _⟩ := id h
  rw [hl] at h ⊢
  have HH := Lib.hid h
  have hr := Lib.hid h.range
  have HL := Lib.hid hl
  have HT := Lib.hid hT
  clear h hl hT
  go_enter Tryz.func157, Tryz.ntmps157
  go_wp2_with (at_builtin; first
    | (refine app_arm Tryz.E8 _ rfl (.const (.slice none 0 0)) (.tmp 8) rfl rfl (World.ownsRow_nil _ 0 _ _) rfl (Src.of_HB HH.out) (ints_one _ _) (by omega) (by unfold maxLen; omega) ?_; intro v1 w1 ho1 hg1 _; simp only [Nat.zero_add, List.nil_append] at ho1; obtain ⟨A1, k1, rfl, _, _⟩ := own_shape ho1)
    | (refine app_arm Tryz.E8 _ rfl (.tmp 9) (.tmp 10) rfl rfl (ho1.alloc _) rfl (Src.alloc w1 1 [_] _ 1 rfl) (by simp [Value.oneCell']) (by omega) (by unfold maxLen; omega) ?_; intro v2 w2 ho2 hg2 _; obtain ⟨A2, k2, rfl, _, _⟩ := own_shape ho2))
  have hB2 : Below w.heap.size w w2 := hg1.nil_below.trans (hg2.from_alloc.chg.to_below (hg1.nil_below.size) fun q e => hg1.fresh q e)
  have ho2' : w2.ownsRow w.heap.size 5 1 (.slice A2 (16 + 1) k2) 17 (ints .u8 (padK bs 0)) := by
    refine own_base (n := 17) (by simpa [padK, ints_append, ints] using ho2) fun q e => ?_
    rcases hg2.from_alloc.at_ with f | f
    · exact hg1.fresh q (f ▸ e)
    · exact Nat.le_trans hg1.nil_below.size (f q e)
  replace ho2' := Lib.hid ho2'
  clear ho2 hg2 hg1 ho1
  go_loopw [3] (fun u wr => ∃ k : Nat, k ≤ 39 ∧ Below w.heap.size w wr ∧ wr.ownsRow w.heap.size 5 1 u (17 + k) (ints .u8 (padK bs k))) (fun u _ => match u with | .slice _ n _ => 56 - n | _ => 0)
  case atStart => exact ⟨0, by omega, hB2, ho2'.out⟩
  case round =>
    obtain ⟨k, hk, hB, ho⟩ := hrel
    obtain ⟨Av, cv, rfl, _, _⟩ := own_shape ho
    have HO := Lib.hid ho
    clear ho
    by_cases hlt : k < 39
    · obtain ⟨q, hq⟩ : ∃ q, 17 + k = q := ⟨_, rfl⟩
      rw [hq] at HO ⊢
      have HQ := Lib.hid hq
      have hq1 : q < 56 := by omega
      have hrem : Int.tmod (q : Int) 64 = q := Int.tmod_eq_of_lt (by omega) (by omega)
      have hne : ((q : Int) != 56) = true := by simp; omega
      clear hq
      have ho3 := own_zero HO.out
      go_wp2_with (at_builtin; refine app_arm Tryz.E8 _ rfl (.tmp 16) (.tmp 17) rfl (v := .slice Av q cv) rfl (ho3.alloc _) rfl (Src.alloc wr 1 [_] _ 1 rfl) (by simp [Value.oneCell']) (by omega) (by unfold maxLen; omega) ?_; intro v4 w4 ho4 hg4 _; obtain ⟨A4, k4, rfl, _, _⟩ := own_shape ho4)
      refine ⟨⟨k + 1, by omega, hB.trans (hg4.from_alloc.chg.to_below hB.size fun q e => (HO.out.lt q e).1), ?_⟩, by show 56 - (q + 1) < 56 - q; omega⟩
      rw [show 17 + (k + 1) = q + 1 by rw [← HQ.out]; omega, padK_succ]
      refine own_base ho4 fun q e => ?_
      rcases hg4.from_alloc.at_ with f | f
      · exact (HO.out.lt q (f ▸ e)).1
      · exact Nat.le_trans hB.size (f q e)
    · obtain rfl : k = 39 := by omega
      rw [show 17 + 39 = 56 from rfl] at HO ⊢
      have hp0 := own_zero HO.out
      have hpl := padK_length bs 39
      go_wp2_with fail
      refine (put_any (.slice Av 56 cv) 56 (padK bs 39) 128 8 wr (by omega) (by omega) (by omega) hp0).mono ?_
      rintro e w5 ⟨v5, rfl, ho5, hg5⟩
      have hB5 := hB.trans (hg5.chg.to_below hB.size fun q e => (HO.out.lt q e).1)
      have hfr5 : ∀ q, v5.ownBlock = some q → w.heap.size ≤ q := by
        intro q e
        rcases hg5.at_ with f | f
        · exact (HO.out.lt q (f ▸ e)).1
        · exact Nat.le_trans hB.size (f q e)
      change w5.ownsRow 0 5 1 v5 64 (ints .u8 (pad16 bs)) at ho5
      have hHB := HB.of_own ho5 (by
        intro x hx
        rcases List.mem_append.1 hx with h | h
        · exact padK_range hr.out 39 x h
        · exact putL_range _ _ x h) (by rw [pad16, List.length_append, padK_length, putL_length, HL.out]; omega)
      obtain ⟨A5, c5, rfl, h51, h52⟩ := own_shape ho5
      obtain ⟨g, _, rfl, _⟩ := own_pos ho5 (by omega)
      have hT5 := HT.out.below hB5
      replace ho5 := Lib.hid ho5
      replace hHB := Lib.hid hHB
      replace hT5 := Lib.hid hT5
      clear hp0 hg5 hpl HO hB hlt hk ho2'
      go_wp2_with fail
      obtain ⟨W1, hW1⟩ : ∃ W, w5.alloc (.cells #[.int .u32 1779033703, .int .u32 3144134277, .int .u32 1013904242, .int .u32 2773480762, .int .u32 1359893119, .int .u32 2600822924, .int .u32 528734635, .int .u32 1541459225] 225) = W := ⟨_, rfl⟩
      have hb1 : RowU 225 W1 w5.heap.size ivL := by rw [← hW1]; exact heap_alloc_new w5 _
      have hB51 : Below w5.heap.size w5 W1 := by rw [← hW1]; exact (Below.refl _ _).alloc (Nat.le_refl _) _
      rw [hW1]
      obtain ⟨q, hq⟩ : ∃ q, w5.heap.size = q := ⟨_, rfl⟩
      have hwq : w.heap.size ≤ q := by rw [← hq]; exact hB5.size
      have hBw1 := hB5.trans (hB51.mono hB5.size)
      rw [hq] at hb1 ⊢
      have hHB1 := Lib.hid (hHB.out.below hB51)
      have hT1 := Lib.hid (hT5.out.below hB51)
      have hTR := Lib.hid (takeL_ok ivL (pad16 bs))
      have hPL : Hid ((pad16 bs).length = 64) := Lib.hid (by rw [pad16, List.length_append, padK_length, putL_length, HL.out])
      clear hW1
      go_loopw [3] (fun u wr => Chg (fun j => j = q) W1 wr ∧ ((u = .slice (some ⟨g, 0, none⟩) 64 c5 ∧ RowU 225 wr q ivL) ∨ ((∃ A c, u = .slice A 0 c) ∧ RowU 225 wr q (takeL ivL (pad16 bs))))) (fun u _ => match u with | .slice _ n _ => n | _ => 0)
      case atStart => exact ⟨Chg.refl _ _, .inl ⟨rfl, hb1⟩⟩
      case round =>
        obtain ⟨hch, ⟨rfl, hrow⟩ | ⟨⟨Az, cz, rfl⟩, hrow⟩⟩ := hrel
        · have hq1 := hb1
          unfold RowU at hq1 hrow
          have hHr := hHB1.out.chg hch (by
            intro b cur fr e h
            subst e
            rw [hq1] at h; cases h)
          have hTr := hT1.out.chg hch (by have := hT1.out.1; have h0 := hT5.out.1; omega)
          have TA := fun nq => take_any ivL _ (pad16 bs) (wr.drewN nq) ivL_ok.1 ivL_ok.2 (hHr.drewN nq) hPL.out (hTr.below (below_drewN' (Below.refl _ wr) nq))
          replace TA := Lib.hid TA
          have m0 : wr.cell? ⟨q, 0, none⟩ = some (.int .u32 1779033703) := by rw [cell_of_blk hrow]; rfl
          have m1 : wr.cell? ⟨q, 1, none⟩ = some (.int .u32 3144134277) := by rw [cell_of_blk hrow]; rfl
          have m2 : wr.cell? ⟨q, 2, none⟩ = some (.int .u32 1013904242) := by rw [cell_of_blk hrow]; rfl
          have m3 : wr.cell? ⟨q, 3, none⟩ = some (.int .u32 2773480762) := by rw [cell_of_blk hrow]; rfl
          have m4 : wr.cell? ⟨q, 4, none⟩ = some (.int .u32 1359893119) := by rw [cell_of_blk hrow]; rfl
          have m5 : wr.cell? ⟨q, 5, none⟩ = some (.int .u32 2600822924) := by rw [cell_of_blk hrow]; rfl
          have m6 : wr.cell? ⟨q, 6, none⟩ = some (.int .u32 528734635) := by rw [cell_of_blk hrow]; rfl
          have m7 : wr.cell? ⟨q, 7, none⟩ = some (.int .u32 1541459225) := by rw [cell_of_blk hrow]; rfl
          have h51i : (64 : Int) ≤ (c5 : Int) := by omega
          have HROW := Lib.hid hrow
          clear hq1 hrow hHr hTr hq
          go_wp2_with fail
          refine region_quiet_tail 3 (by kernel_rfl) (by kernel_rfl) ?_
          simp only [List.take_succ_cons, List.take_zero, List.drop_succ_cons, List.drop_zero]
          repeat (quiet_step (fail))
          refine wpQuiet_nil ?_
          intro _ hw'
          obtain ⟨nq, hw''⟩ := hw'
          subst hw''
          go_wp2_with fail
          refine (TA.out nq).mono ?_
          rintro e w7 ⟨rfl, hB7⟩
          have hch7 := (hch.then_drewN nq).then_below hB7
          have hr7 := below_blk hB7 (blk_drewN HROW.out nq)
          have hlen : (ints .u32 (takeL ivL (pad16 bs))).toArray.size = 8 := by rw [List.size_toArray, ints_length, hTR.out.1]
          have hi3 : (Tryz.prog.info? 225).map (·.size) = some (ints .u32 (takeL ivL (pad16 bs))).toArray.size := by rw [hlen]; kernel_rfl
          have hone : (ints .u32 (takeL ivL (pad16 bs))).toArray.all (·.oneCell') = true := by
            rw [Array.all_eq_true_iff_forall_mem]
            intro x hx
            exact ints_one _ _ x (by simpa using hx)
          have hold : Hid ((ints .u32 ivL).toArray.size = (ints .u32 (takeL ivL (pad16 bs))).toArray.size) := Lib.hid (by rw [hlen]; rfl)
          unfold aggU
          obtain ⟨cs, hcs⟩ : ∃ cs, (ints .u32 (takeL ivL (pad16 bs))).toArray = cs := ⟨_, rfl⟩
          rw [hcs] at hlen hi3 hone hold ⊢
          have HCS := Lib.hid hcs
          replace hr7 := Lib.hid hr7
          replace hi3 := Lib.hid hi3
          replace hone := Lib.hid hone
          clear hcs hlen
          go_wp2_with (refine wpList_store_row rfl 225 (.tmp 4) (.tmp 34) rfl q cs rfl rfl 225 _ hr7.out hi3.out hold.out hone.out ?_)
          refine ⟨⟨?_, .inr ⟨⟨_, _, rfl⟩, ?_⟩⟩, ?_⟩
          · exact ⟨hch7.os, hch7.tape, hch7.output, by simpa [World.setRow] using hch7.size, fun k hk hn => (setRow_other w7 q k cs hn).trans (hch7.block k hk hn)⟩
          · unfold RowU; rw [HCS.out]; exact setRow_heap _ _ _ _ _ _ hr7.out
          · show 0 < 64
            omega
        · have hlen : (ints .u32 (takeL ivL (pad16 bs))).toArray.size = 8 := by rw [List.size_toArray, ints_length, hTR.out.1]
          have hi3 : (Tryz.prog.info? 225).map (·.size) = some (ints .u32 (takeL ivL (pad16 bs))).toArray.size := by rw [hlen]; kernel_rfl
          obtain ⟨S, hS⟩ : ∃ S, takeL ivL (pad16 bs) = S := ⟨_, rfl⟩
          have hfin : sum16 bs = outL S := by rw [sum16, hS]
          have hTR' := hTR.out
          rw [hS] at hlen hi3 hrow hTR'
          have hTR2 := Lib.hid hTR'
          have hXk : ∀ j, j < 8 → (ints .u32 S).toArray[j]? = some (.int .u32 (S[j]?.getD 0)) := by
            intro j hj
            rw [List.getElem?_toArray, ints_get _ _ _ (by rw [hTR'.1]; exact hj)]
          unfold RowU at hrow
          obtain ⟨cs, hcs⟩ : ∃ cs, (ints .u32 S).toArray = cs := ⟨_, rfl⟩
          rw [hcs] at hlen hi3 hrow hXk
          have hBwr : Below w.heap.size w wr := hBw1.trans (hch.to_below hBw1.size fun j e => by omega)
          replace hfin := Lib.hid hfin
          replace hrow := Lib.hid hrow
          replace hi3 := Lib.hid hi3
          replace hXk := Lib.hid hXk
          have hlen' := Lib.hid hlen
          clear hS hcs hTR' hlen
          go_wp2_with (refine wpList_load_row rfl 225 (.tmp 4) rfl q rfl 225 cs (0, 0) _ hrow.out Tryz.underlying225 rfl hi3.out ?_)
          go_loopw [5, 36] (fun u i wr => ∃ j : Nat, j ≤ 8 ∧ i = .int .i64 j ∧ Below w.heap.size w wr ∧ wr.ownsRow w.heap.size 5 1 u (4 * j) (ints .u8 (outL (S.take j)))) (fun _ i _ => 8 - (intOf i).toNat)
          case atStart => exact ⟨0, by omega, rfl, hBwr, World.ownsRow_nil _ _ _ _⟩
          case round =>
            obtain ⟨j, hj, rfl, hB, ho⟩ := hrel
            obtain ⟨Av, cv, rfl, _, _⟩ := own_shape ho
            by_cases hlt : j < 8
            · have hx := run_idx8 cs hlen'.out j hlt _ (hXk.out j hlt)
              have hsn : outL (S.take (j + 1)) = outL (S.take j) ++ putL (S[j]?.getD 0) 4 := by
                rw [take_snoc S j (by rw [hTR2.out.1]; exact hlt) 0, outL_snoc]
              have hr0 := hTR2.out.2.at_ j
              have hjI : (j : Int) < 8 := by omega
              have HSN := Lib.hid hsn
              have HO := Lib.hid ho
              clear hsn ho
              generalize S[j]?.getD 0 = y at *
              go_wp2_with fail
              refine (put_any _ (4 * j) _ y 4 wr hr0.1 (by omega) (by omega) (own_zero HO.out)).mono ?_
              rintro e w9 ⟨v9, rfl, ho9, hg9⟩
              obtain ⟨A9, c9, rfl, _, _⟩ := own_shape ho9
              go_wp2_with fail
              refine ⟨⟨j + 1, by omega, by go_num, hB.trans (hg9.chg.to_below hB.size fun q e => (HO.out.lt q e).1), ?_⟩, by simp [intOf]; omega⟩
              rw [HSN.out]
              refine own_base ho9 fun q e => ?_
              rcases hg9.at_ with f | f
              · exact (HO.out.lt q (f ▸ e)).1
              · exact Nat.le_trans hB.size (f q e)
            · obtain rfl : j = 8 := by omega
              rw [List.take_of_length_le (by rw [hTR2.out.1]; exact Nat.le_refl _)] at ho
              replace ho := Lib.hid ho
              go_wp2
              go_ret
              rw [hfin.out]
              exact ⟨_, rfl, ho.out, hB⟩

end Go.Proofs.YtblddkjdglliaaaGreatDoor
