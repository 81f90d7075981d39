/- Contracts: rank.Targets (given hash.Weight's contract). -/
import Derived.Test.YtblddkjdglliaaaGreatDoorInts
namespace Go.Proofs.YtblddkjdglliaaaGreatDoor
open Go.RowKit

/-- The drives among the first k that are in. -/
def inK (st : List Int) : Nat → List Int
  | 0 => []
  | k + 1 => if st[k]?.getD 0 = 1 then inK st k ++ [(k : Int)] else inK st k
def insL (st : List Int) : List Int := inK st st.length
theorem inK_range (st : List Int) (k : Nat) : ∀ d ∈ inK st k, 0 ≤ d ∧ d < k := by
  induction k with
  | zero => simp [inK]
  | succ k ih =>
    intro d hd
    unfold inK at hd
    split at hd
    · rcases List.mem_append.1 hd with h | h
      · have := ih d h; omega
      · simp at h; omega
    · have := ih d hd; omega
theorem inK_length (st : List Int) (k : Nat) : (inK st k).length ≤ k := by
  induction k with
  | zero => simp [inK]
  | succ k ih =>
    unfold inK
    split
    · simp; omega
    · omega
def targetsL (wt : Int → Int → Int) (s : Int) (st : List Int) (n : Nat) : List Int := if n ≤ (insL st).length then (orderL wt s (insL st)).take n else []

set_option maxRecDepth 100000 in
set_option maxHeartbeats 1000000 in
theorem targets_any (wt : Int → Int → Int) (WT : WeightOk wt) (s : Int) (v : Value) (st : List Int) (n : Nat) (w : World) (hs : 0 ≤ s ∧ s ≤ 1000000000) (h : HC w v st) (hl : st.length ≤ 12) (hn1 : 1 ≤ n) (hn : n ≤ 1000) (hT : Turns w) :
    Calls Tryz.prog 48 #[.int .i64 s, v, .int .i64 n] w fun e w' => ∃ v', e = .returned (.tuple #[v', .bool (decide (n ≤ (insL st).length))]) ∧ HI w' v' (targetsL wt s st n) ∧ FreshV w.heap.size v' ∧ Below w.heap.size w w' := by
  obtain ⟨A, m, c, rfl⟩ := h.shape
  obtain ⟨hm, hmc, _⟩ := h.cell
  have HH := Lib.hid h
  have HST := Lib.hid hm
  have hm12 : m ≤ 12 := by omega
  have HW := Lib.hid WT
  have HT := Lib.hid hT
  clear h hm hl WT hT
  go_enter Tryz.func48, Tryz.ntmps48
  go_wp2
  go_loopw [8, 13] (fun u i wr => ∃ k : Nat, k ≤ m ∧ i = .int .i64 k ∧ Below w.heap.size w wr ∧ wr.ownsRow w.heap.size 3 1 u (inK st k).length (ints .i64 (inK st k))) (fun _ i _ => m - (intOf i).toNat)
  case atStart => exact ⟨0, by omega, rfl, Below.refl _ _, World.ownsRow_nil _ _ _ _⟩
  case round =>
    obtain ⟨k, hk, rfl, hB, ho⟩ := hrel
    obtain ⟨Av, cv, rfl, hcv, _⟩ := own_shape ho
    have HO := Lib.hid ho
    clear ho
    by_cases hlt : k < m
    · have hC := (HH.out.below hB).cell.2.2 k hlt
      obtain ⟨b, o, rfl, hck⟩ := hC
      by_cases hst : st[k]?.getD 0 = 1
      · rw [hst] at hck
        have hstep : inK st (k + 1) = inK st k ++ [(k : Int)] := by rw [inK, if_pos hst]
        have hlen := inK_length st k
        have HS := Lib.hid hstep
        clear hst hstep
        generalize inK st k = L at *
        generalize hq : L.length = q at *
        have HQ := Lib.hid hq
        clear hq
        have ho2 : wr.ownsRow 0 3 1 (.slice Av q cv) q (ints .i64 L) := own_zero HO.out
        go_wp2_with (at_builtin; go_must (refine app_arm Tryz.EI _ rfl (.tmp 20) (.tmp 22) rfl rfl (v := .slice Av q cv) (ho2.alloc _) rfl (Src.alloc wr 1 [_] _ 1 rfl) (by simp [Value.oneCell']) (by omega) (by unfold maxLen; omega) ?_); intro v2 w2 ho3 hg2 _; obtain ⟨A2, k2, rfl, _⟩ := own_shape ho3)
        have hg3 := hg2.from_alloc
        refine ⟨⟨k + 1, by omega, by go_num, hB.trans (hg3.chg.to_below hB.size fun q e => (HO.out.lt q e).1), ?_⟩, by simp [intOf]; omega⟩
        rw [HS.out, List.length_append, ints_append, HQ.out]
        refine own_base ho3 fun q e => ?_
        rcases hg3.at_ with f | f
        · exact (HO.out.lt q (f ▸ e)).1
        · exact Nat.le_trans hB.size (f q e)
      · have hstep : inK st (k + 1) = inK st k := by rw [inK, if_neg hst]
        have HS := Lib.hid hstep
        clear hstep
        obtain ⟨x, hx⟩ : ∃ x, st[k]?.getD 0 = x := ⟨_, rfl⟩
        rw [hx] at hck hst
        clear hx
        have hb : (x == 1) = false := by simpa using hst
        go_wp2
        refine ⟨⟨k + 1, by omega, by go_num, hB, ?_⟩, by simp [intOf]; omega⟩
        rw [HS.out]; exact HO.out
    · obtain rfl : k = m := by omega
      have hins : inK st k = insL st := by rw [insL, ← HST.out]
      have hr := inK_range st k
      have hlen := inK_length st k
      have htl : targetsL wt s st n = if n ≤ (insL st).length then (orderL wt s (insL st)).take n else [] := rfl
      rw [hins] at HO hcv hr hlen ⊢
      clear hins
      obtain ⟨L, hL⟩ : ∃ L, insL st = L := ⟨_, rfl⟩
      rw [hL] at HO hcv hr hlen htl ⊢
      replace hL := Lib.hid hL
      by_cases hq : n ≤ L.length
      · rw [if_pos hq] at htl
        replace htl := Lib.hid htl
        have hdq := Lib.hid (decide_eq_true hq)
        have OR := order_any wt HW.out s (.slice Av L.length cv) L _ L.length wr hs HO.out (by omega) (by omega) (fun d hd => by have := hr d hd; omega) (HT.out.below hB)
        replace OR := Lib.hid OR
        have hr' := Lib.hid hr
        clear hr
        obtain ⟨q, hqq⟩ : ∃ q, L.length = q := ⟨_, rfl⟩
        rw [hqq] at HO OR hcv hlen hq ⊢
        clear hqq
        have d1 : decide ((q : Int) < (n : Int)) = false := decide_eq_false (by omega)
        have d2 : decide ((n : Int) < 0) = false := decide_eq_false (by omega)
        go_wp2_with fail
        refine OR.out.mono ?_
        rintro e w4 ⟨v4, rfl, ho4, hB4⟩
        obtain ⟨A4, c4, rfl, h41, h42⟩ := own_shape ho4
        have hHI := (HI.of_own ho4).clip n hq
        have hFR : FreshV w.heap.size (.slice A4 n n) := by
          intro x hx
          refine Nat.le_trans hB.size (FreshV.of_own ho4 x ?_)
          cases A4 with
          | none => simp [blkOf] at hx
          | some a => simpa [blkOf] using hx
        have h4n : n ≤ c4 := by omega
        have hBw := hB.trans (hB4.mono hB.size)
        obtain ⟨g, cur, rfl, _⟩ := own_pos ho4 (by omega)
        replace hHI := Lib.hid hHI
        replace hFR := Lib.hid hFR
        clear ho4 hB4
        go_wp2_with (go_at_call 91; refine (clip_int _ n n _ (Nat.le_refl _)).mono ?_; rintro e w' ⟨rfl, rfl⟩)
        go_ret2
        rw [htl.out, hL.out, hdq.out]
        exact ⟨_, rfl, hHI.out, hFR.out, hBw⟩
      · rw [if_neg hq] at htl
        replace htl := Lib.hid htl
        have hdq := Lib.hid (decide_eq_false hq)
        have d1 : decide ((L.length : Int) < (n : Int)) = true := decide_eq_true (by omega)
        obtain ⟨q, hqq⟩ : ∃ q, L.length = q := ⟨_, rfl⟩
        rw [hqq] at HO hcv hlen d1 hq ⊢
        clear hqq
        go_wp2
        go_ret2
        rw [htl.out, hL.out, hdq.out]
        exact ⟨_, rfl, HI.nil _, by intro x hx; simp [blkOf] at hx, hB⟩
end Go.Proofs.YtblddkjdglliaaaGreatDoor
