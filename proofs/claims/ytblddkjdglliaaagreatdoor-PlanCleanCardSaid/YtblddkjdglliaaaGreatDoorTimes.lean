/- Contract: mat.Times (where both tables fit). -/
import Derived.Test.YtblddkjdglliaaaGreatDoorRs
namespace Go.Proofs.YtblddkjdglliaaaGreatDoor
open Go.RowKit

def timesK (row : List Int) (b : List (List Int)) (c : Nat) : Nat → List Int
  | 0 => List.replicate c 0
  | n + 1 => addL (timesK row b c n) (b[n]?.getD []) (row[n]?.getD 0)
def timesRow (b : List (List Int)) (c : Nat) (row : List Int) : List Int := timesK row b c b.length
def timesL (a b : List (List Int)) (c : Nat) : List (List Int) := a.map (timesRow b c)
theorem timesK_ok (row : List Int) (b : List (List Int)) (c n : Nat) : (timesK row b c n).length = c ∧ ∀ y ∈ timesK row b c n, 0 ≤ y ∧ y ≤ 255 := by
  induction n with
  | zero => exact ⟨by simp [timesK], fun y hy => by simp [timesK] at hy; omega⟩
  | succ n ih => exact ⟨by rw [timesK, addL, addK_length]; exact ih.1, addK_range _ _ _ _ ih.2⟩
theorem map_take_snoc {α β : Type} (l : List α) (f : α → β) (d : α) (k : Nat) (h : k < l.length) : (l.take (k + 1)).map f = (l.take k).map f ++ [f (l[k]?.getD d)] := by
  rw [List.take_add_one, List.map_append]; simp [List.getElem?_eq_getElem h]
/-- A row of slices grows by one. -/
theorem HR.grow {w w1 w2 : World} {v v2 u : Value} {rows : List (List Int)} {us : List Value} {bs : List Int} (hl : rows.length < 60000) (ho : w.ownsRow 0 22 1 v rows.length us)
    (hu : ∀ i, i < rows.length → ∃ u, us[i]? = some u ∧ HB w u (rows[i]?.getD [])) (h1 : Below w.heap.size w w1) (h : HB w1 u bs)
    (ho2 : w2.ownsRow 0 22 1 v2 (rows.length + 1) (us ++ [u])) (hg : Grow (w1.alloc (.cells #[u] 22)) w2 v v2) : HR w2 0 v2 (rows ++ [bs]) ∧ HB w2 u bs := by
  have hk : ∀ (b : Nat) (cur : Array Value) (fr : Nat × Nat), w1.heap[b]? = some (.cells cur 5 fr) → w2.heap[b]? = some (.cells cur 5 fr) := by
    intro b cur fr hb
    refine hg.chg.blk (blk_alloc hb _) fun e => ?_
    obtain ⟨cur', e'⟩ := own_ty (own_below ho h1) b e
    rw [hb] at e'; cases e'
  exact ⟨HR.snoc (w := w1) hl (fun i hi => by obtain ⟨x, e, hh⟩ := hu i hi; exact ⟨x, e, hh.below h1⟩) (by have := ho.1; omega) h ho2 hk, h.keep hk⟩

set_option maxRecDepth 100000 in
set_option maxHeartbeats 1000000 in
theorem times_any (va vb : Value) (a b : List (List Int)) (c : Nat) (w : World) (ha : HM w va a) (hb : HM w vb b) (a0 : 0 < a.length) (b0 : 0 < b.length)
    (har : ∀ i, i < a.length → (a[i]?.getD []).length = b.length) (hbr : ∀ i, i < b.length → (b[i]?.getD []).length = c) (hbig : a.length ≤ 1000) :
    Calls Tryz.prog 132 #[va, vb] w fun e w' => ∃ v, e = .returned (.tuple #[v, .int .i64 0]) ∧ HR w' 0 v (timesL a b c) ∧ (∀ k, v.ownBlock = some k → w.heap.size ≤ k) ∧ Below w.heap.size w w' := by
  have FA := fit_any va a b.length w ha a0 har
  have FB := fun W hB => fit_any vb b c W (HM.below hb hB) b0 hbr
  obtain ⟨A, na, ca, rfl⟩ := ha.shape
  obtain ⟨B, nb, cb, rfl⟩ := hb.shape
  obtain ⟨ea, hna, _, _, hca⟩ := ha.cell
  obtain ⟨eb, hnb, _, hnb6, hcb⟩ := hb.cell
  rw [← ea] at a0 hbig
  rw [← eb] at b0
  have hcc : c ≤ 60000 := by
    obtain ⟨_, _, _, _, _, hh⟩ := hcb 0 b0
    have := hh.len
    rw [hbr 0 (by omega)] at this
    exact this
  have rowA : ∀ W, Below w.heap.size w W → ∀ i, i < na → ∃ bl o A' c', A = some ⟨bl, o, none⟩ ∧ W.cell? ⟨bl, o + i, none⟩ = some (.slice A' nb c') ∧ HB w (.slice A' nb c') (a[i]?.getD []) := by
    intro W hB i hi
    obtain ⟨bl, o, u, rfl, hu, hh⟩ := hca i hi
    obtain ⟨A', n', c', rfl⟩ := hh.shape
    have hn' := hh.cell.1
    rw [har i (by omega), ← eb] at hn'
    subst hn'
    refine ⟨bl, o, A', c', rfl, ?_, hh⟩
    have : bl < w.heap.size := by
      unfold World.cell? at hu
      rcases hg : w.heap[bl]? with _ | o
      · simp [hg] at hu
      · exact blk_lt hg
    exact (hB.cell (p := ⟨bl, o + i, none⟩) this).trans hu
  have rowB : ∀ W, Below w.heap.size w W → ∀ i, i < nb → ∃ bl o A' c', B = some ⟨bl, o, none⟩ ∧ W.cell? ⟨bl, o + i, none⟩ = some (.slice A' c c') ∧ HB w (.slice A' c c') (b[i]?.getD []) := by
    intro W hB i hi
    obtain ⟨bl, o, u, rfl, hu, hh⟩ := hcb i hi
    obtain ⟨A', n', c', rfl⟩ := hh.shape
    have hn' := hh.cell.1
    rw [hbr i (by omega)] at hn'
    subst hn'
    refine ⟨bl, o, A', c', rfl, ?_, hh⟩
    have : bl < w.heap.size := by
      unfold World.cell? at hu
      rcases hg : w.heap[bl]? with _ | o
      · simp [hg] at hu
      · exact blk_lt hg
    exact (hB.cell (p := ⟨bl, o + i, none⟩) this).trans hu
  have EA := Lib.hid ea
  have EB' := Lib.hid eb
  have HAR := Lib.hid har
  have HBR := Lib.hid hbr
  replace FA := Lib.hid FA
  replace FB := Lib.hid FB
  have RA := Lib.hid rowA
  have RB := Lib.hid rowB
  clear ea eb har hbr rowA rowB hca hcb ha hb
  go_enter Tryz.func132, Tryz.ntmps132
  go_wp2_with fail
  refine FA.out.mono ?_
  rintro e w1 ⟨rfl, hB1⟩
  go_wp2_with fail
  refine (FB.out w1 hB1).mono ?_
  rintro e w2 ⟨rfl, hB2'⟩
  have hB2 := hB1.trans (hB2'.mono hB1.size)
  clear hB1 hB2'
  obtain ⟨bl0, o0, A0, c0, rfl, hu0, _⟩ := RA.out w2 hB2 0 a0
  rw [Nat.add_zero] at hu0
  go_wp2_with fail
  go_loopw [6, 31] (fun v i wr => ∃ k : Nat, k ≤ na ∧ i = .int .i64 k ∧ Below w.heap.size w wr ∧ HR wr 0 v ((a.take k).map (timesRow b c)) ∧ (∀ k, v.ownBlock = some k → w.heap.size ≤ k)) (fun _ i _ => na - (intOf i).toNat)
  case atStart => exact ⟨0, by omega, rfl, hB2, HR.nil _ _, by simp [Value.ownBlock]⟩
  case round =>
    obtain ⟨k, hk, rfl, hB, hR, hfr⟩ := hrel
    have HRo := Lib.hid hR
    clear hR
    by_cases hlt : k < na
    · clear hu0 hB2
      obtain ⟨bl, o, A', c', e1, hua, hha⟩ := RA.out wr hB k hlt
      cases e1
      obtain ⟨bl1, o1, A1, c1, rfl, hub, hhb⟩ := RB.out wr hB 0 b0
      rw [Nat.add_zero] at hub
      obtain ⟨hq1, hac, hca⟩ := hha.cell
      clear hq1
      have hRf := HRo.out
      obtain ⟨hl, us, ho, hus⟩ := hRf
      have hrl : ((a.take k).map (timesRow b c)).length = k := by rw [List.length_map, List.length_take, ← EA.out]; omega
      rw [hrl] at ho hl
      obtain ⟨Av, cv, rfl, _, _⟩ := own_shape ho
      have HUS := Lib.hid hus
      have HFR := Lib.hid hfr
      have HRL := Lib.hid hrl
      clear hus hfr hrl
      obtain ⟨row, hrow⟩ : ∃ row, a[k]?.getD [] = row := ⟨_, rfl⟩
      have HRW := Lib.hid hrow
      rw [hrow] at hha hca
      clear hrow
      have hrr := hha.at_
      have HHA := Lib.hid hha
      clear hha
      go_wp2_with (at_make; refine make_arm (z := .int .u8 0) (bytes := 1) Tryz.underlying22 Tryz.info5 rfl _ rfl (.tmp 38) (.tmp 38) rfl c rfl rfl rfl rfl (by omega) (by unfold maxLen; omega) ?_; intro hown)
      have hmade := Row.made wr c
      obtain ⟨W1, hW1⟩ : ∃ W, wr.alloc (.cells (madeCells #[Value.int .u8 0] c) 5) = W := ⟨_, rfl⟩
      rw [hW1] at hmade ⊢
      have hBW : Below wr.heap.size wr W1 := by rw [← hW1]; exact (Below.refl _ wr).alloc (Nat.le_refl _) _
      have hsz : W1.heap.size = wr.heap.size + 1 := by rw [← hW1]; simp
      obtain ⟨g, hg⟩ : ∃ g, g = wr.heap.size := ⟨_, rfl⟩
      rw [← hg] at hmade hsz ⊢
      have hwg : w.heap.size ≤ g := by rw [hg]; exact hB.size
      have HG := Lib.hid hg
      have HM1 := Lib.hid hmade
      have HSZ := Lib.hid hsz
      clear hW1 hmade hown hg hsz
      go_loopw [42] (fun i wq => ∃ j : Nat, j ≤ nb ∧ i = .int .i64 j ∧ Row wq g (timesK row b c j) ∧ Chg (fun q => q = g) W1 wq) (fun i _ => nb - (intOf i).toNat)
      case atStart => exact ⟨0, by omega, rfl, HM1.out, Chg.refl _ _⟩
      case round =>
        obtain ⟨j, hj, rfl, hq, hch⟩ := hrel
        have hBq : Below w.heap.size w wr := (hB.trans (hBW.mono hB.size)).trans (hch.to_below (by have := hB.size; have := hBW.size; omega) (fun q e => by omega))
        by_cases hlj : j < nb
        · obtain ⟨b2, o2, A2, c2, e2, hub2, hhb2⟩ := RB.out wr hBq j hlj
          cases e2
          obtain ⟨b3, o3, rfl, hca3⟩ := hca j hlj
          have hcw : wr.cell? ⟨b3, o3 + j, none⟩ = some (.int .u8 (row[j]?.getD 0)) := by
            have hb3 : b3 < w.heap.size := by
              obtain ⟨A', c', e1, _, _, _, _, h6⟩ := HHA.out
              simp only [Value.slice.injEq] at e1
              obtain ⟨rfl, e2, rfl⟩ := e1
              obtain ⟨b', o', cur, fr, e, hq, _⟩ := h6 (by omega)
              cases e; exact blk_lt hq
            exact (hBq.cell (p := ⟨b3, o3 + j, none⟩) hb3).trans hca3
          have hrj := hrr j
          have AD := add_any g c _ (timesK row b c j) (b[j]?.getD []) (row[j]?.getD 0) w wr hBq hwg (timesK_ok row b c j).1.symm hq (timesK_ok row b c j).2 hrj hhb2 (by rw [HBR.out j (by rw [← EB'.out]; exact hlj)]; exact Nat.le_refl _)
          have hstep : addL (timesK row b c j) (b[j]?.getD []) (row[j]?.getD 0) = timesK row b c (j + 1) := rfl
          rw [hstep] at AD
          replace AD := Lib.hid AD
          clear hstep hhb2 hca3 hca hq
          generalize row[j]?.getD 0 = x at *
          go_wp2_with fail
          refine AD.out.mono ?_
          rintro e w3 ⟨⟨u, rfl⟩, hq3, hch3⟩
          go_wp2
          go_roundw
          case rel => exact ⟨j + 1, by omega, by go_num, hq3, hch.trans hch3 (fun _ _ h => h)⟩
          case measure => simp [intOf]; omega
        · obtain rfl : j = nb := by omega
          have hrow' : timesK row b c j = timesRow b c row := by rw [timesRow, EB'.out]
          rw [hrow'] at hq
          have hHB := hq.HB (by rw [← hrow']; exact (timesK_ok row b c j).2) (by rw [← hrow', (timesK_ok row b c j).1]; exact hcc) c (by rw [← hrow', (timesK_ok row b c j).1])
          have hWs := hBW.size
          have h1 : Below _ _ wr := hBW.trans (hch.to_below hWs (fun q e => by rw [e, HG.out]; exact Nat.le_refl _))
          have ho1 := own_below ho h1
          have H1 := Lib.hid h1
          clear hrow' hq hub hua hca
          go_wp2_with (at_builtin; refine app_arm Tryz.EB _ rfl (.tmp 55) (.tmp 57) rfl rfl (ho1.alloc _) rfl (Src.alloc wr 1 [_] _ 1 rfl) (by simp [Value.oneCell']) (by omega) (by unfold maxLen; omega) ?_; intro v2 w2 ho2 hg2 _; obtain ⟨A2, k2, rfl, _⟩ := own_shape ho2)
          have hg3 := hg2.from_alloc
          have GR := HR.grow (w1 := wr) (bs := timesRow b c row) (by rw [HRL.out]; omega) (by rw [HRL.out]; exact ho) HUS.out H1.out hHB (by rw [HRL.out]; exact ho2) hg2
          rw [← HRW.out, ← map_take_snoc a (timesRow b c) [] k (by rw [← EA.out]; exact hlt)] at GR
          refine ⟨⟨k + 1, by omega, by go_num, ?_, GR.1, ?_⟩, by simp [intOf]; omega⟩
          · exact hBq.trans (hg3.chg.to_below hBq.size HFR.out)
          · intro q e
            rcases hg3.at_ with f | f
            · exact HFR.out q (f ▸ e)
            · exact Nat.le_trans hBq.size (f q e)
    · obtain rfl : k = na := by omega
      obtain ⟨hl, us, ho, hus⟩ := HRo.out
      have hrl : ((a.take k).map (timesRow b c)).length = k := by rw [List.length_map, List.length_take, ← EA.out]; omega
      rw [hrl] at ho
      obtain ⟨Av, cv, rfl, _, _⟩ := own_shape ho
      clear hrl hl
      have hR := HRo.out
      rw [List.take_of_length_le (by rw [← EA.out]; omega)] at hR
      have HR2 := Lib.hid hR
      have HFR := Lib.hid hfr
      clear ho hus hR hfr
      go_wp2
      go_ret2
      exact ⟨_, rfl, HR2.out, HFR.out, hB⟩
end Go.Proofs.YtblddkjdglliaaaGreatDoor
