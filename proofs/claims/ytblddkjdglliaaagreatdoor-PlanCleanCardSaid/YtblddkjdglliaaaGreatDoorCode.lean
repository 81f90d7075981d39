/- Contract: mat.Code. -/
import Derived.Test.YtblddkjdglliaaaGreatDoorTimes
namespace Go.Proofs.YtblddkjdglliaaaGreatDoor
open Go.RowKit

def codeAt (k n j : Nat) : Int := if n < k then 0 else gfInv (bits BinOp.xor IntKind.i64 n j % 256)
def codeK (k n j : Nat) : List Int := (List.range k).map fun i => if i < j then codeAt k n i else 0
/-- Row n of the code. -/
def codeRow (k n : Nat) : List Int := if n < k then (codeK k n k).set n 1 else codeK k n k
def codeL (k m : Nat) : List (List Int) := (List.range (k + m)).map (codeRow k)
theorem codeAt_range (k n j : Nat) : 0 ≤ codeAt k n j ∧ codeAt k n j ≤ 255 := by
  unfold codeAt
  split
  · omega
  · exact gfInv_range _ (by omega)
theorem codeK_range (k n j : Nat) : ∀ y ∈ codeK k n j, 0 ≤ y ∧ y ≤ 255 := by
  intro y hy
  simp only [codeK, List.mem_map] at hy
  obtain ⟨i, _, rfl⟩ := hy
  split
  · exact codeAt_range _ _ _
  · omega
theorem codeK_length (k n j : Nat) : (codeK k n j).length = k := by simp [codeK]
theorem codeK_zero (k n : Nat) : codeK k n 0 = List.replicate k 0 := by
  apply List.ext_getElem
  · simp [codeK]
  · intro i h1 h2; simp [codeK]
theorem codeK_get (k n j : Nat) (h : j < k) : (codeK k n j)[j]?.getD 0 = 0 := by simp [codeK, h]
theorem codeK_set (k n j : Nat) : (codeK k n j).set j (codeAt k n j) = codeK k n (j + 1) := by
  have := set_of_take (List.replicate k (0 : Int)) j _ (codeAt k n) 0 rfl
  have e : ∀ q, codeK k n q = (List.range (List.replicate k (0 : Int)).length).map fun i => if i < q then codeAt k n i else (List.replicate k (0 : Int))[i]?.getD 0 := by
    intro q
    unfold codeK
    rw [List.length_replicate]
    apply List.map_congr_left
    intro i hi
    have := List.mem_range.1 hi
    simp [this]
  rw [e, e]; exact this
theorem codeK_skip (k n j : Nat) (h : n < k) : codeK k n (j + 1) = codeK k n j := by
  rw [← codeK_set]
  have : codeAt k n j = 0 := by simp [codeAt, h]
  rw [this]
  apply List.ext_getElem
  · simp
  · intro i h1 h2
    rw [List.getElem_set]
    split
    · rename_i e; subst e; simp [codeK]
    · rfl
theorem codeRow_ok (k n : Nat) : (codeRow k n).length = k ∧ ∀ y ∈ codeRow k n, 0 ≤ y ∧ y ≤ 255 := by
  unfold codeRow
  split
  · refine ⟨by rw [List.length_set, codeK_length], fun y hy => ?_⟩
    rcases List.mem_or_eq_of_mem_set hy with h | h
    · exact codeK_range _ _ _ y h
    · omega
  · exact ⟨codeK_length _ _ _, codeK_range _ _ _⟩

theorem Src.alloc_at (w : World) (size : Nat) (cs : List Value) (t : TypeId) (m : Nat) (h : cs.length = m * size) (q : Nat) (hq : w.heap.size = q) : Src (w.alloc (.cells cs.toArray t)) size (some ⟨q, 0, none⟩) m cs := by
  subst hq; exact Src.alloc w size cs t m h
set_option maxRecDepth 100000 in
set_option maxHeartbeats 1000000 in
theorem code_any (k m : Nat) (w : World) (hk1 : 1 ≤ k) (hk4 : k ≤ 4) (hm3 : m ≤ 3) :
    Calls Tryz.prog 131 #[.int .i64 k, .int .i64 m] w fun e w' => ∃ v, e = .returned v ∧ HR w' 0 v (codeL k m) ∧ (∀ k, v.ownBlock = some k → w.heap.size ≤ k) ∧ Below w.heap.size w w' := by
  go_enter Tryz.func131, Tryz.ntmps131
  go_wp2
  go_loopw [5, 26] (fun v i wr => ∃ n : Nat, n ≤ k + m ∧ i = .int .i64 n ∧ Below w.heap.size w wr ∧ HR wr 0 v ((List.range n).map (codeRow k)) ∧ (∀ k, v.ownBlock = some k → w.heap.size ≤ k)) (fun _ i _ => k + m - (intOf i).toNat)
  case atStart => exact ⟨0, by omega, rfl, Below.refl _ _, HR.nil _ _, by simp [Value.ownBlock]⟩
  case round =>
    obtain ⟨n, hn, rfl, hB, hR, hfr⟩ := hrel
    have hrl : ((List.range n).map (codeRow k)).length = n := by simp
    obtain ⟨hl, us, ho, hus⟩ := id hR
    rw [hrl] at ho
    obtain ⟨Av, cv, rfl, _, _⟩ := own_shape ho
    have HRo := Lib.hid hR
    have HUS := Lib.hid hus
    have HFR := Lib.hid hfr
    have HRL := Lib.hid hrl
    clear hR hl hus hfr hrl
    by_cases hlt : n < k + m
    · go_wp2_with (at_make; refine make_arm (z := .int .u8 0) (bytes := 1) Tryz.underlying22 Tryz.info5 rfl _ rfl (.tmp 29) (.tmp 29) rfl k rfl rfl rfl rfl (by omega) (by unfold maxLen; omega) ?_; intro hown)
      have hmade := Row.made wr k
      obtain ⟨W1, hW1⟩ : ∃ W, wr.alloc (.cells (madeCells #[Value.int .u8 0] k) 5) = W := ⟨_, rfl⟩
      rw [hW1] at hmade ⊢
      have hBW : Below wr.heap.size wr W1 := by rw [← hW1]; exact (Below.refl _ wr).alloc (Nat.le_refl _) _
      have hsz : W1.heap.size = wr.heap.size + 1 := by rw [← hW1]; simp
      obtain ⟨g, hg⟩ : ∃ g, g = wr.heap.size := ⟨_, rfl⟩
      rw [← hg] at hmade hsz ⊢
      have hwg : w.heap.size ≤ g := by rw [hg]; exact hB.size
      rw [← codeK_zero k n] at hmade
      have HG := Lib.hid hg
      have HM1 := Lib.hid hmade
      have HSZ := Lib.hid hsz
      clear hW1 hmade hown hg hsz
      go_loopw [33] (fun i wq => ∃ j : Nat, j ≤ k ∧ i = .int .i64 j ∧ Row wq g (codeK k n j) ∧ Chg (fun q => q = g) W1 wq) (fun i _ => k - (intOf i).toNat)
      case atStart => exact ⟨0, by omega, rfl, HM1.out, Chg.refl _ _⟩
      case round =>
        obtain ⟨j, hj, rfl, hq, hch⟩ := hrel
        have hBq : Below w.heap.size w wr := (hB.trans (hBW.mono hB.size)).trans (hch.to_below (by have := hB.size; have := hBW.size; omega) (fun q e => by omega))
        by_cases hlj : j < k
        · by_cases hnk : n < k
          · have hs := codeK_skip k n j hnk
            have HS := Lib.hid hs
            have HQ := Lib.hid hq
            clear hs hq
            go_wp2
            go_roundw
            case rel => exact ⟨j + 1, by omega, by go_num, by rw [HS.out]; exact HQ.out, hch⟩
            case measure => simp [intOf]; omega
          · have hs := codeK_set k n j
            rw [codeAt, if_neg hnk] at hs
            have hfz := hq.frozen j
            have hcl := hq.cell j (by rw [codeK_length]; exact hlj)
            rw [codeK_get k n j hlj] at hcl
            have HS := Lib.hid hs
            have HQ := Lib.hid hq
            clear hs hq
            have IV := Lib.hid fun W => inv_any (bits BinOp.xor IntKind.i64 n j % 256) W (by omega)
            go_wp2_with fail
            refine (IV.out _).mono ?_
            rintro e w' ⟨rfl, rfl⟩
            go_wp2
            go_roundw
            case rel => exact ⟨j + 1, by omega, by go_num, by rw [← HS.out]; exact HQ.out.set j _, hch.then_setCell (a := ⟨g, j, none⟩) (.inl rfl) _⟩
            case measure => simp [intOf]; omega
        · obtain rfl : j = k := by omega
          have hWs := hBW.size
          have FIN : ∀ (wz : World), Row wz g (codeRow j n) → Chg (fun q => q = g) W1 wz → Below w.heap.size w wz → ∀ v2 w2 k2 A2 us', us' = us ++ [.slice (some ⟨g, 0, none⟩) j j] → v2 = .slice A2 (n + 1) k2 → w2.ownsRow 0 22 1 v2 (n + 1) us' → Grow (wz.alloc (.cells #[.slice (some ⟨g, 0, none⟩) j j] 22)) w2 (.slice Av n cv) v2 →
              HR w2 0 v2 ((List.range (n + 1)).map (codeRow j)) ∧ (∀ k, v2.ownBlock = some k → w.heap.size ≤ k) ∧ Below w.heap.size w w2 := by
            rintro wz hz hchz hBz v2 w2 k2 A2 us' rfl _ ho2 hg2
            have h1 := hBW.trans (hchz.to_below hWs (fun q e => by rw [e, HG.out]; exact Nat.le_refl _))
            have hg3 := hg2.from_alloc
            have GR := HR.grow (w1 := wz) (bs := codeRow j n) (by rw [HRL.out]; omega) (by rw [HRL.out]; exact ho) HUS.out h1 (hz.HB (codeRow_ok j n).2 (by rw [(codeRow_ok j n).1]; omega) j (codeRow_ok j n).1.symm) (by rw [HRL.out]; exact ho2) hg2
            refine ⟨?_, ?_, hBz.trans (hg3.chg.to_below hBz.size HFR.out)⟩
            · rw [List.range_succ, List.map_append]; exact GR.1
            · intro q e
              rcases hg3.at_ with f | f
              · exact HFR.out q (f ▸ e)
              · exact Nat.le_trans hBz.size (f q e)
          have hOW : ∀ wz : World, Chg (fun q => q = g) W1 wz → wz.ownsRow 0 22 1 (.slice Av n cv) n us := fun wz hchz => own_below ho (hBW.trans (hchz.to_below hWs (fun q e => by rw [e, HG.out]; exact Nat.le_refl _)))
          by_cases hnk : n < j
          · have hset := hq.set n 1
            have hcl := hq.cell n (by rw [codeK_length]; exact hnk)
            have hfz := hq.frozen n
            rw [show (codeK j n j).set n 1 = codeRow j n by rw [codeRow, if_pos hnk]] at hset
            have HSET := Lib.hid hset
            have hch2 := hch.then_setCell (a := ⟨g, n, none⟩) (.inl rfl) (.int .u8 1)
            have hB2 := hBq.setCell (p := ⟨g, n, none⟩) hwg (.int .u8 1)
            have FN := Lib.hid (FIN _ hset hch2 hB2)
            have hO2 := hOW _ hch2
            clear hq hset FIN hOW hch hch2
            go_wp2_with (at_builtin; refine app_arm Tryz.EB _ rfl (.tmp 54) (.tmp 56) rfl rfl (hO2.alloc _) rfl (Src.alloc_at _ 1 [_] _ 1 rfl _ (by simp)) (by simp [Value.oneCell']) (by omega) (by unfold maxLen; omega) ?_; intro v2 w2 ho2 hg2 _; obtain ⟨A2, k2, rfl, _⟩ := own_shape ho2)
            have F := FN.out _ _ _ _ _ rfl rfl ho2 hg2
            exact ⟨⟨n + 1, by omega, by go_num, F.2.2, F.1, F.2.1⟩, by simp [intOf]; omega⟩
          · rw [show codeK j n j = codeRow j n by rw [codeRow, if_neg hnk]] at hq
            have FN := Lib.hid (FIN _ hq hch hBq)
            have hO2 := hOW _ hch
            clear hq FIN hOW hch
            go_wp2_with (at_builtin; refine app_arm Tryz.EB _ rfl (.tmp 54) (.tmp 56) rfl rfl (hO2.alloc _) rfl (Src.alloc _ 1 [_] _ 1 rfl) (by simp [Value.oneCell']) (by omega) (by unfold maxLen; omega) ?_; intro v2 w2 ho2 hg2 _; obtain ⟨A2, k2, rfl, _⟩ := own_shape ho2)
            have F := FN.out _ _ _ _ _ rfl rfl ho2 hg2
            exact ⟨⟨n + 1, by omega, by go_num, F.2.2, F.1, F.2.1⟩, by simp [intOf]; omega⟩
    · obtain rfl : n = k + m := by omega
      go_wp2
      go_ret
      exact ⟨_, rfl, HRo.out, HFR.out, hB⟩
end Go.Proofs.YtblddkjdglliaaaGreatDoor
