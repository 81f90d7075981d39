/- Contracts: rank.Order, rank.Targets (given hash.Weight's contract). -/
import Derived.Test.YtblddkjdglliaaaGreatDoorSort
import Derived.Test.YtblddkjdglliaaaGreatDoorPoolH
import Derived.Test.YtblddkjdglliaaaGreatDoorCode
namespace Go.Proofs.YtblddkjdglliaaaGreatDoor
open Go.RowKit

/-- hash.turns's numbers. -/
def turnsL : List Int := [1116352408, 1899447441, 3049323471, 3921009573, 961987163, 1508970993, 2453635748, 2870763221, 3624381080, 310598401, 607225278, 1426881987, 1925078388, 2162078206, 2614888103, 3248222580, 3835390401, 4022224774, 264347078, 604807628, 770255983, 1249150122, 1555081692, 1996064986, 2554220882, 2821834349, 2952996808, 3210313671, 3336571891, 3584528711, 113926993, 338241895, 666307205, 773529912, 1294757372, 1396182291, 1695183700, 1986661051, 2177026350, 2456956037, 2730485921, 2820302411, 3259730800, 3345764771, 3516065817, 3600352804, 4094571909, 275423344, 430227734, 506948616, 659060556, 883997877, 958139571, 1322822218, 1537002063, 1747873779, 1955562222, 2024104815, 2227730452, 2361852424, 2428436474, 2756734187, 3204031479, 3329325298]
/-- The variable hash.turns holds its numbers. -/
def Turns (w : World) : Prop := 0 < w.heap.size ∧ ∀ i, i < 64 → w.cell? ⟨0, i, none⟩ = some (.int .u32 (turnsL[i]?.getD 0))
theorem Turns.chg {O : Nat → Prop} {w w' : World} (h : Turns w) (hc : Chg O w w') (ho : ¬ O 0) : Turns w' := by
  refine ⟨Nat.lt_of_lt_of_le h.1 hc.size, fun i hi => ?_⟩
  rw [← h.2 i hi]
  have := hc.block 0 h.1 ho
  simp [World.cell?, this]
theorem Turns.below {w w' : World} (h : Turns w) (hb : Below w.heap.size w w') : Turns w' := h.chg (O := fun _ => False) (Chg.of_below hb) (fun x => x)
/-- hash.Weight's contract. -/
def WeightOk (wt : Int → Int → Int) : Prop := (∀ s d, 0 ≤ wt s d ∧ wt s d ≤ 18446744073709551615) ∧
  ∀ (s d : Int) (w : World), 0 ≤ s ∧ s ≤ 1000000000 → 0 ≤ d ∧ d ≤ 1000 → Turns w → Calls Tryz.prog 125 #[.int .i64 s, .int .i64 d] w fun e w' => e = .returned (.int .u64 (wt s d)) ∧ Below w.heap.size w w'
theorem Tryz.EN : Elem Tryz.prog 170 172 2 16 := Elem.of Tryz.underlying170 (z := .agg #[.int .i64 0, .int .u64 0]) (by kernel_rfl) rfl (by omega)
theorem Tryz.EI : Elem Tryz.prog 24 3 1 8 := Elem.of Tryz.underlying24 (z := .int .i64 0) (by kernel_rfl) rfl (by omega)
/-- Drives with their weights. -/
def nears (wt : Int → Int → Int) (s : Int) (ds : List Int) : List (Int × Int) := ds.map fun d => (d, wt s d)
def orderL (wt : Int → Int → Int) (s : Int) (ds : List Int) : List Int := (sortN (nears wt s ds)).map (·.1)
def cellsN (l : List (Int × Int)) : List Value := l.flatMap encN
theorem cellsN_length (l : List (Int × Int)) : (cellsN l).length = l.length * 2 := by
  induction l with
  | nil => rfl
  | cons x l ih => simp [cellsN, encN] at *; omega
theorem cellsN_get (l : List (Int × Int)) (j : Nat) (h : j < l.length) : (cellsN l)[2 * j]? = some (.int .i64 (l[j]?.getD (0, 0)).1) ∧ (cellsN l)[2 * j + 1]? = some (.int .u64 (l[j]?.getD (0, 0)).2) := by
  induction l generalizing j with
  | nil => simp at h
  | cons x l ih =>
    cases j with
    | zero => simp [cellsN, encN]
    | succ j =>
      have := ih j (by simpa using h)
      simp only [cellsN, List.flatMap_cons] at this ⊢
      rw [show 2 * (j + 1) = (encN x).length + 2 * j by simp [encN]; omega, List.getElem?_append_right (by omega), List.getElem?_append_right (by omega)]
      simpa [Nat.add_sub_cancel_left, show (encN x).length + 2 * j + 1 - (encN x).length = 2 * j + 1 by omega] using this

set_option maxRecDepth 100000 in
set_option maxHeartbeats 1000000 in
theorem order_any (wt : Int → Int → Int) (WT : WeightOk wt) (s : Int) (v : Value) (ds : List Int) (B n : Nat) (w : World) (hs : 0 ≤ s ∧ s ≤ 1000000000) (h : w.ownsRow B 3 1 v n (ints .i64 ds)) (hn1 : 1 ≤ n) (hn : n ≤ 12) (hd : ∀ d ∈ ds, 0 ≤ d ∧ d ≤ 1000) (hT : Turns w) :
    Calls Tryz.prog 92 #[.int .i64 s, v] w fun e w' => ∃ v', e = .returned v' ∧ w'.ownsRow w.heap.size 3 1 v' n (ints .i64 (orderL wt s ds)) ∧ Below w.heap.size w w' := by
  have hlen : ds.length = n := by have := h.1; rw [ints_length] at this; omega
  obtain ⟨A, c, rfl, hnc, _⟩ := own_shape h
  obtain ⟨b, cur, rfl, _, _, _, hbk, _, _, hcell⟩ := own_pos h hn1
  have hblt := blk_lt hbk
  have HC : ∀ W, Below w.heap.size w W → ∀ i, i < n → W.cell? ⟨b, i, none⟩ = some (.int .i64 (ds[i]?.getD 0)) := by
    intro W hB i hi
    rw [hB.cell (p := ⟨b, i, none⟩) hblt, hcell i (by omega), ints_get _ _ _ (by omega)]
  replace HC := Lib.hid HC
  have HD := Lib.hid hd
  have HL := Lib.hid hlen
  have WTc := Lib.hid WT.2
  clear hcell hbk h hd hlen
  go_enter Tryz.func92, Tryz.ntmps92
  go_wp2
  go_loopw [5, 13] (fun u i wr => ∃ k : Nat, k ≤ n ∧ i = .int .i64 k ∧ Below w.heap.size w wr ∧ wr.ownsRow w.heap.size 172 2 u k (cellsN (nears wt s (ds.take k)))) (fun _ i _ => n - (intOf i).toNat)
  case atStart => exact ⟨0, by omega, rfl, Below.refl _ _, World.ownsRow_nil _ _ _ _⟩
  case round =>
    obtain ⟨k, hk, rfl, hB, ho⟩ := hrel
    obtain ⟨Av, cv, rfl, _, _⟩ := own_shape ho
    by_cases hlt : k < n
    · have hck := HC.out wr hB k hlt
      have hdk : 0 ≤ ds[k]?.getD 0 ∧ ds[k]?.getD 0 ≤ 1000 := by
        have hk' : k < ds.length := by rw [HL.out]; exact hlt
        rw [List.getElem?_eq_getElem hk']; exact HD.out _ (List.getElem_mem hk')
      have hW := WTc.out s (ds[k]?.getD 0) wr hs hdk (hT.below hB)
      have hrng := WT.1 s (ds[k]?.getD 0)
      have hnx : cellsN (nears wt s (ds.take (k + 1))) = cellsN (nears wt s (ds.take k)) ++ [.int .i64 (ds[k]?.getD 0), .int .u64 (wt s (ds[k]?.getD 0))] := by
        rw [take_snoc ds k (by rw [HL.out]; exact hlt) 0]; simp [nears, cellsN, encN]
      obtain ⟨d, hdd⟩ : ∃ d, ds[k]?.getD 0 = d := ⟨_, rfl⟩
      rw [hdd] at hck hdk hW hrng hnx
      clear hdd
      have HW := Lib.hid hW
      have HNX := Lib.hid hnx
      have HO := Lib.hid ho
      clear hW hnx
      generalize wt s d = y at *
      go_wp2_with fail
      refine HW.out.mono ?_
      rintro e w1 ⟨rfl, hB1⟩
      have ho1 := own_zero (own_below HO.out hB1)
      have hBw1 := hB.trans (hB1.mono hB.size)
      go_wp2_with (at_builtin; refine app_arm Tryz.EN _ rfl (.tmp 17) (.tmp 23) rfl rfl (ho1.alloc _) rfl (Src.alloc w1 2 [_, _] _ 1 rfl) (by simp [Value.oneCell']) (by omega) (by unfold maxLen; omega) ?_; intro v2 w2 ho2 hg2 _; obtain ⟨A2, k2, rfl, _⟩ := own_shape ho2)
      have hg3 := hg2.from_alloc
      refine ⟨⟨k + 1, by omega, by go_num, hBw1.trans (hg3.chg.to_below hBw1.size fun q e => (HO.out.lt q e).1), ?_⟩, by simp [intOf]; omega⟩
      rw [HNX.out]
      refine own_base ho2 fun q e => ?_
      rcases hg3.at_ with f | f
      · exact (HO.out.lt q (f ▸ e)).1
      · exact Nat.le_trans hBw1.size (f q e)
    · obtain rfl : k = n := by omega
      rw [List.take_of_length_le (by rw [HL.out]; omega)] at ho
      obtain ⟨g, cur2, rfl, _, hge, _, hgb, _, _, hgc⟩ := own_pos ho hn1
      have hnl : (nears wt s ds).length = k := by simp [nears, HL.out]
      have SO := sort_any g cv (nears wt s ds) wr (by omega) (blk_lt hgb) (fun j hj => by
        have := cellsN_get (nears wt s ds) j hj
        rw [hgc (2 * j) (by omega), hgc (2 * j + 1) (by omega)]; exact this) (fun i => frozen_of_blk hgb i)
      rw [hnl] at SO
      obtain ⟨L, hL⟩ : ∃ L, sortN (nears wt s ds) = L := ⟨_, rfl⟩
      have hor : orderL wt s ds = L.map (·.1) := by rw [orderL, hL]
      rw [hL] at SO
      have HOR := Lib.hid hor
      replace SO := Lib.hid SO
      clear hL hor hgc hgb ho hnl
      go_wp2_with fail
      refine SO.out.mono ?_
      rintro e w1 ⟨rfl, hch, hLl, hLc⟩
      have hB1 : Below w.heap.size w w1 := hB.trans (hch.to_below hB.size fun q e => by omega)
      replace hLc := Lib.hid hLc
      replace hLl := Lib.hid hLl
      have hgw : g < w1.heap.size := by
        obtain ⟨h0, _⟩ := hLc.out 0 hn1
        rcases hq : w1.heap[g]? with _ | o
        · simp [World.cell?, hq] at h0
        · exact blk_lt hq
      clear hch hB
      go_wp2_with fail
      go_loopw [8, 30] (fun u i wr => ∃ j : Nat, j ≤ k ∧ i = .int .i64 j ∧ Below w1.heap.size w1 wr ∧ wr.ownsRow w1.heap.size 3 1 u j (ints .i64 ((L.take j).map (·.1)))) (fun _ i _ => k - (intOf i).toNat)
      case atStart => exact ⟨0, by omega, rfl, Below.refl _ _, World.ownsRow_nil _ _ _ _⟩
      case round =>
        obtain ⟨j, hj, rfl, hB2, ho2⟩ := hrel
        obtain ⟨Av, cv, rfl, _, _⟩ := own_shape ho2
        by_cases hlt2 : j < k
        · have hc2 := hLc.out j hlt2
          rw [← hB2.cell (p := ⟨g, 2 * j, none⟩) hgw, ← hB2.cell (p := ⟨g, 2 * j + 1, none⟩) hgw] at hc2
          obtain ⟨hc2, hc3⟩ := hc2
          rw [Nat.mul_comm 2 j] at hc2 hc3
          have hsn : ints .i64 ((L.take (j + 1)).map (·.1)) = ints .i64 ((L.take j).map (·.1)) ++ [.int .i64 (L[j]?.getD (0, 0)).1] := by
            rw [map_take_snoc L (·.1) (0, 0) j (by rw [hLl.out]; exact hlt2), ints_append]; rfl
          have HSN := Lib.hid hsn
          have HO := Lib.hid ho2
          clear hsn ho2
          obtain ⟨x, hx⟩ : ∃ x, L[j]?.getD (0, 0) = x := ⟨_, rfl⟩
          rw [hx] at hc2 hc3 HSN
          clear hx
          obtain ⟨x1, x2⟩ := x
          go_wp2_with (at_builtin; refine app_arm Tryz.EI _ rfl (.tmp 34) (.tmp 37) rfl rfl (((own_zero HO.out).alloc _).alloc _) rfl (Src.alloc_at _ 1 [_] _ 1 rfl _ (by simp)) (by simp [Value.oneCell']) (by omega) (by unfold maxLen; omega) ?_; intro v2 w2 ho2 hg2 _; obtain ⟨A2, k2, rfl, _⟩ := own_shape ho2)
          have hg3 := hg2.from_alloc.from_alloc
          refine ⟨⟨j + 1, by omega, by go_num, hB2.trans (hg3.chg.to_below hB2.size fun q e => (HO.out.lt q e).1), ?_⟩, by simp [intOf]; omega⟩
          rw [HSN.out]
          refine own_base ho2 fun q e => ?_
          rcases hg3.at_ with f | f
          · exact (HO.out.lt q (f ▸ e)).1
          · exact Nat.le_trans hB2.size (f q e)
        · obtain rfl : j = k := by omega
          rw [List.take_of_length_le (by rw [hLl.out]; exact Nat.le_refl _)] at ho2
          have HO2 := Lib.hid ho2
          clear ho2
          go_wp2
          go_ret
          refine ⟨_, rfl, ?_, hB1.trans (hB2.mono hB1.size)⟩
          rw [HOR.out]
          exact own_base HO2.out fun q e => Nat.le_trans hB1.size (HO2.out.lt q e).1
end Go.Proofs.YtblddkjdglliaaaGreatDoor
