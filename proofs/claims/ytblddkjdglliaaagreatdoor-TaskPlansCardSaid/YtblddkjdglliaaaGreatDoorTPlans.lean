/- The walk of TaskPlans. Conditions: hash.turns holds its numbers; the data's and the states' cells are had. -/
import Derived.Test.YtblddkjdglliaaaGreatDoorTOthers
import Derived.Test.YtblddkjdglliaaaGreatDoorROrd
import Derived.Test.YtblddkjdglliaaaGreatDoorLawP
namespace Go.Proofs.YtblddkjdglliaaaGreatDoor
open Go.RowKit
attribute [local go_sem ↓] Go.wp_at_zero Go.wp_at_succ

def keyK : ByteArray := ⟨#[107, 101, 121]⟩
theorem countN_lt (k n i : Nat) (hk : 1 ≤ k) : i < countN k n ↔ i * 8 * k < n := by
  unfold countN
  by_cases h : n = 0
  · rw [if_pos h]; omega
  · rw [if_neg h, Nat.lt_succ_iff, Nat.le_div_iff_mul_le (by omega), Nat.mul_assoc, Nat.mul_comm 8 k]
    omega

set_option maxRecDepth 100000 in
set_option maxHeartbeats 2000000 in
theorem taskPlans_walk (k8 m8 : Int) (A : Option Addr) (n c : Nat) (ver : Int) (S : Option Addr) (sn sc : Nat) (ep : Int) (xs st : List Int) (w : World) (hT : Turns w) (hk8 : 0 ≤ k8 ∧ k8 ≤ 255) (hm8 : 0 ≤ m8 ∧ m8 ≤ 255) (hv16 : 0 ≤ ver ∧ ver ≤ 65535) (he16 : 0 ≤ ep ∧ ep ≤ 65535) (hx : Handed w A n xs) (hst : HC w (.slice S sn sc) st) :
    Calls Tryz.prog 3 #[.int .u8 k8, .int .u8 m8, .slice A n c, .int .u16 ver, .slice S sn sc, .int .u16 ep] w fun e w' => e = .returned (.bool true) ∧ Below w.heap.size w w' := by
  have HT := Lib.hid hT
  have HX := Lib.hid hx
  have HST := Lib.hid hst
  have hxl := hx.1
  have hsl := hst.cell.1
  clear hT hx hst
  by_cases hbig : 96 < n
  · have AN := Lib.hid (answers_any w HT.out)
    have d1 : decide (96 < (n : Int)) = true := decide_eq_true (by omega)
    go_enter Tryz.func3, Tryz.ntmps3
    go_wp2_with fail
    refine AN.out.mono ?_
    rintro e w' ⟨rfl, hB⟩
    go_wp2
    go_ret
    exact ⟨rfl, hB⟩
  have d1 : decide (96 < (n : Int)) = false := decide_eq_false (by omega)
  by_cases hbig2 : 12 < sn
  · have AN := Lib.hid (answers_any w HT.out)
    have d2 : decide (12 < (sn : Int)) = true := decide_eq_true (by omega)
    go_enter Tryz.func3, Tryz.ntmps3
    go_wp2_with fail
    refine AN.out.mono ?_
    rintro e w' ⟨rfl, hB⟩
    go_wp2
    go_ret
    exact ⟨rfl, hB⟩
  have d2 : decide (12 < (sn : Int)) = false := decide_eq_false (by omega)
  obtain ⟨K, hK⟩ : ∃ K : Nat, k8 % 4 + 1 = (K : Int) := ⟨(k8 % 4 + 1).toNat, by omega⟩
  obtain ⟨M, hM⟩ : ∃ M : Nat, m8 % 4 = (M : Int) := ⟨(m8 % 4).toNat, by omega⟩
  obtain ⟨V, hV⟩ : ∃ V : Nat, ver + 1 = (V : Int) := ⟨(ver + 1).toNat, by omega⟩
  have hk1 : 1 ≤ K := by omega
  have hk4 : K ≤ 4 := by omega
  have hm3 : M ≤ 3 := by omega
  have hVb : V ≤ 100000 := by omega
  have hn96 : n ≤ 96 := by omega
  have hs12 : sn ≤ 12 := by omega
  replace hxl := Lib.hid hxl
  replace hsl := Lib.hid hsl
  clear hbig hbig2
  have HK := Lib.hid hK
  have HM := Lib.hid hM
  have HV := Lib.hid hV
  clear hK hM hV
  go_enter Tryz.func3, Tryz.ntmps3
  have hK := HK.out
  have hM := HM.out
  have hV := HV.out
  go_wp2_with fail
  clear hK hM hV
  have hck1 : checkN 1 keyK.size n = 0 := by
    show (if (1 : Int) < 1 ∨ 4 < 1 then (1 : Int) else if (1 : Int) ≠ 4 ∧ (keyK.size < 1 ∨ 16 < keyK.size) then 5 else if (1 : Int) = 1 ∧ 96 < n then 4 else 0) = 0
    rw [if_neg (by omega), if_neg (by decide), if_neg (by omega)]
  refine (new_handed 0 1 keyK A n c xs w HX.out (by omega) hck1).mono ?_
  rintro e w1 ⟨b, rfl, hX1, hb, hB1⟩
  replace hX1 := Lib.hid hX1
  unfold tptr
  have PL := plan_any b (newT 0 1 keyK xs) K M V ep (.slice S sn sc) st w1 hX1.out rfl (HST.out.below hB1) (by rw [← hsl.out]; exact hs12) hk1 hk4 hm3 hVb (by show xs.length ≤ 96; rw [hxl.out]; exact hn96) (HT.out.below hB1)
  unfold tptr at PL
  replace PL := Lib.hid PL
  have hVV := HV.out
  clear hck1
  go_wp2_with fail
  have hcl := countN_le K n hk1 hn96
  have hlt := fun i => countN_lt K n i hk1
  have TA := fun (i : Nat) W (hi : i ≤ 12) (hB : Below w1.heap.size w1 W) => refTargets_any (16 * (V : Int) + i) (.slice S sn sc) st (K + M) W (by omega) ((HST.out.below hB1).below hB) (by rw [← hsl.out]; exact hs12) (by omega) (by omega)
  replace TA := Lib.hid TA
  obtain ⟨C, hC⟩ : ∃ C, countN K n = C := ⟨_, rfl⟩
  have hdl : (newT 0 1 keyK xs).data.length = n := hxl.out
  have PL2 := PL.out
  rw [hdl, hC] at PL2
  rw [hC] at hcl hlt
  replace hlt := Lib.hid hlt
  replace PL := Lib.hid PL2
  replace hdl := Lib.hid hdl
  have HC' := Lib.hid hC
  clear PL2 hC
  refine PL.out.mono ?_
  rintro e w3 (⟨hin, rfl, hT3, hch3⟩ | ⟨hno, rfl, hB3⟩)
  case inr =>
    have hC0 : 0 < C := by omega
    have hKM : ¬ K + M ≤ (insL st).length := fun h => hno (.inr h)
    have hBw3 := hB1.trans (hB3.mono hB1.size)
    have T0 := TA.out 0 (w3.alloc (.cells #[.string keyK, .int .i64 V, .int .i64 n, .slice none 0 0] 32)) (by omega) (hB3.alloc hB3.size _)
    rw [decide_eq_false hKM] at T0
    have h0n : 0 < n := by have := (hlt.out 0).1 hC0; omega
    simp only [Int.natCast_zero, Int.add_zero, Int.natCast_add] at T0
    replace T0 := Lib.hid T0
    clear TA hno hKM
    go_wp2_with fail
    refine wp_loop_rounds 1 ?_
    rw [rounds_succ]
    go_wp2_with fail
    refine T0.out.mono ?_
    rintro e w4 ⟨v4, rfl, -, -, hB4⟩
    have hBw4 : Below w.heap.size w w4 := (hBw3.alloc hBw3.size _).trans (hB4.mono (by have := hBw3.size; simp; omega))
    have AN := Lib.hid (answers_any w4 (HT.out.below hBw4))
    go_wp2_with fail
    refine AN.out.mono ?_
    rintro e w5 ⟨rfl, hB5⟩
    go_wp2
    go_ret
    exact ⟨rfl, hBw4.trans (hB5.mono hBw4.size)⟩
  case inl =>
  have hbw1 := hX1.out.lt
  have hbw := hb
  have hBw3 : Below w.heap.size w w3 := hB1.trans (hch3.to_below hB1.size (by rintro k rfl; exact hb))
  have hB13 : Below w1.heap.size w1 w3 ∨ True := .inr trivial
  obtain ⟨T, hTT⟩ : ∃ T, (newT 0 1 keyK xs).planned_ st K M V ep = T := ⟨_, rfl⟩
  have hTs : T.strs = planL st K M V ep C := by rw [← hTT, ← HC'.out, ← hxl.out]; rfl
  have hTk : T.okey = keyK ∧ T.oid = V ∧ T.osz = n := by rw [← hTT, ← hxl.out]; exact ⟨rfl, rfl, rfl⟩
  rw [hTT] at hT3
  have hT3' := Lib.hid hT3
  replace hTs := Lib.hid hTs
  replace hTk := Lib.hid hTk
  have hST3 := Lib.hid ((HST.out.below hBw3))
  have HT3 := Lib.hid (HT.out.below hBw3)
  clear TA hB13 hTT hT3 hch3
  have TA := fun (i : Nat) W (hi : i ≤ 12) (hB : Below w3.heap.size w3 W) => refTargets_any (16 * (V : Int) + i) (.slice S sn sc) st (K + M) W (by omega) (hST3.out.below hB) (by rw [← hsl.out]; exact hs12) (by omega) (by omega)
  replace TA := Lib.hid TA
  go_wp2_with fail
  obtain ⟨W4, hW4⟩ : ∃ W, w3.alloc (.cells #[.string keyK, .int .i64 V, .int .i64 n, .slice none 0 0] 32) = W := ⟨_, rfl⟩
  obtain ⟨oq, hoq⟩ : ∃ q, w3.heap.size = q := ⟨_, rfl⟩
  have hbo : W4.heap[oq]? = some (.cells #[.string keyK, .int .i64 V, .int .i64 n, .slice none 0 0] 32 (0, 0)) := by rw [← hW4, ← hoq]; exact heap_alloc_new w3 _
  have hB4 : Below w3.heap.size w3 W4 := by rw [← hW4]; exact (Below.refl _ _).alloc (Nat.le_refl _) _
  have hs4 : W4.heap.size = oq + 1 := by rw [← hW4, ← hoq]; simp
  have hT4 := Lib.hid (hT3'.out.below hB4)
  unfold keyK at *
  rw [hW4, hoq]
  replace hbo := Lib.hid hbo
  replace hs4 := Lib.hid hs4
  replace hoq := Lib.hid hoq
  clear hW4
  go_loopw [19] (fun i wr => ∃ q : Nat, q ≤ C ∧ i = .int .i64 q ∧ Chg (fun j => j = oq) W4 wr ∧ ∃ sv, wr.heap[oq]? = some (.cells #[.string ⟨#[107, 101, 121]⟩, .int .i64 V, .int .i64 n, sv] 32 (0, 0)) ∧ HSo wr W4.heap.size sv (planL st K M V ep q)) (fun i _ => C - (intOf i).toNat)
  case atStart => exact ⟨0, by omega, rfl, Chg.refl _ _, _, hbo.out, HSo.nil _ _⟩
  case round =>
  obtain ⟨q, hq, rfl, hch, sv, hbq, hso⟩ := hrel
  obtain ⟨X, hX⟩ : ∃ X : Nat, q * 8 * K = X := ⟨_, rfl⟩
  have hXI : (q : Int) * 8 * (K : Int) = (X : Int) := by rw [← hX]; push_cast; rfl
  have hXb : X ≤ 1000 := by rw [← hX]; exact Nat.le_trans (Nat.mul_le_mul (Nat.mul_le_mul (show q ≤ 12 by omega) (Nat.le_refl 8)) hk4) (by decide)
  have hq8 : (q : Int) * 8 ≤ 1000 := by omega
  have hBwr : Below w3.heap.size w3 wr := hB4.trans (hch.to_below hB4.size fun j hj => by rw [hoq.out, hj]; exact Nat.le_refl _)
  by_cases hltq : q < C
  case pos =>
    have hXn : X < n := by rw [← hX]; exact (hlt.out q).1 hltq
    have hKM : K + M ≤ (insL st).length := by rcases hin with h | h; omega; exact h
    have TA1 := TA.out q wr (by omega) hBwr
    rw [Int.natCast_add, decide_eq_true hKM] at TA1
    obtain ⟨x, hx⟩ : ∃ x : Int, 16 * (V : Int) + q = x := ⟨_, rfl⟩
    rw [hx] at TA1
    replace TA1 := Lib.hid TA1
    obtain ⟨us, hus, hown, huu⟩ := hso
    rw [planL_length] at hown
    obtain ⟨Av, cv, rfl, _, _⟩ := own_shape hown
    have m3 : wr.cell? ⟨oq, 3, none⟩ = some (.slice Av q cv) := by rw [cell_of_blk hbq]; rfl
    replace hbq := Lib.hid hbq
    replace hown := Lib.hid hown
    replace huu := Lib.hid huu
    replace hus := Lib.hid hus
    have hx2 := Lib.hid hx
    have hxw : IntKind.i64.wrap (16 * (V : Int) + q) = x := by rw [hx]; exact IntWalk.i64_in _ (by omega)
    replace hlt := Lib.hid hlt
    clear hx hX hKM
    go_wp2_with fail
    refine TA1.out.mono ?_
    rintro e W5 ⟨v5, rfl, hI5, hF5, hB5⟩
    have hq5 := below_blk hB5 hbq.out
    have m5 : W5.cell? ⟨oq, 3, none⟩ = some (.slice Av q cv) := by rw [cell_of_blk hq5]; rfl
    obtain ⟨A5, n5, c5, rfl⟩ := hI5.shape
    have ho5 := own_zero (own_below hown.out hB5)
    have hqn : ∀ k, (Value.slice Av q cv).ownBlock = some k → oq ≠ k := by
      intro k hk e
      have := (hown.out.lt k hk).1
      have := hs4.out
      omega
    replace hq5 := Lib.hid hq5
    replace hI5 := Lib.hid hI5
    replace hqn := Lib.hid hqn
    go_wp2_with (at_builtin; refine app_arm Tryz.ESt _ rfl (.tmp 84) (.tmp 93) rfl (v := .slice Av q cv) rfl (ho5.alloc _) rfl (Src.alloc W5 3 [_, _, _] _ 1 rfl) (by simp [Value.oneCell']) (by omega) (by unfold maxLen; omega) ?_; intro v7 W7 ho7 hg7 _; have hq7 := hg7.from_alloc.chg.blk hq5.out (fun e => hqn.out oq e rfl); have m7 : W7.cell? ⟨oq, 3, none⟩ = some (.slice Av q cv) := (by rw [cell_of_blk hq7]; rfl); have f7 := frozen_of_blk hq7 3; replace hq7 := Lib.hid hq7; obtain ⟨A7, k7, rfl, _⟩ := own_shape ho7)
    have hso' : HSo W7 W4.heap.size (.slice A7 (q + 1) k7) (planL st K M V ep (q + 1)) := by
      rw [planL_succ]
      have hown' : wr.ownsRow W4.heap.size 36 3 (.slice Av q cv) (planL st K M V ep q).length (cellsS (planL st K M V ep q) us) := by rw [planL_length]; exact hown.out
      refine HSo.grow hus.out hown' huu.out hB5 (s := planS st K M V ep q) ?_ (hF5.mono hch.size) (Nat.le_trans hch.size hB5.size) ?_ hg7
      · have := hI5.out
        rw [← hx2.out] at this
        exact this
      · rw [planL_length]
        have : (planS st K M V ep q).id = x := hx2.out
        rw [this]
        exact ho7
    have hW7 : Chg (fun j => j = oq) W4 W7 := by
      refine (hch.then_below hB5).trans hg7.from_alloc.chg ?_
      intro i hi e
      have := (hown.out.lt i e).1
      omega
    refine ⟨⟨q + 1, by omega, by go_num, hW7.then_setCell (a := ⟨oq, 3, none⟩) (.inl rfl) _, _, blk_setCell hq7.out 3 _, hso'.chg (O := fun j => j = oq) (Chg.setCell (O := fun j => j = oq) (a := ⟨oq, 3, none⟩) rfl _) ?_ ?_⟩, by simp [intOf]; omega⟩
    · intro j hj e
      obtain ⟨us', _, ho', _⟩ := hso'
      have := (ho'.lt j hj).1
      have := hs4.out
      omega
    · rintro j cur fr rfl e
      rw [hq7.out] at e; cases e
  case neg =>
  obtain rfl : q = C := by omega
  have hXn : ¬ X < n := by rw [← hX]; exact fun h => hltq ((hlt.out q).2 h)
  have dX : decide (X < n) = false := decide_eq_false hXn
  have hS := hso.read
  obtain ⟨A6, n6, c6, rfl⟩ := hS.shape
  have hS6 := Lib.hid hS
  have hbw : Below w.heap.size w wr := hBw3.trans (hBwr.mono hBw3.size)
  have AN := fun W (hB : Below wr.heap.size wr W) => answers_any W ((HT.out.below hbw).below hB)
  have hTw : IsTask wr b T := hT4.out.keep fun k cur t fr ht hk => hch.blk hk fun e => by
    subst e; rw [hbo.out] at hk; cases hk; rcases ht with h | h | h | h <;> cases h
  have hTf : T.strs.length ≤ 100 ∧ ∀ s ∈ T.strs, s.locs.length ≤ 1000 := by
    rw [hTs.out]
    refine ⟨by rw [planL_length]; omega, fun s hs => ?_⟩
    simp only [planL, List.mem_map] at hs
    obtain ⟨i, _, rfl⟩ := hs
    show (targetsL weightL _ st (K + M)).length ≤ 1000
    unfold targetsL
    split
    · rw [List.length_take]; omega
    · simp
  have OB := fun W (hB : Below wr.heap.size wr W) => object_any b T W (hTw.below hB) hTf.1 hTf.2
  rw [hTk.out.1, hTk.out.2.1, hTk.out.2.2] at OB
  unfold tptr at OB
  rw [hTs.out] at OB
  have m0 : wr.cell? ⟨oq, 0, none⟩ = some (.string ⟨#[107, 101, 121]⟩) := by rw [cell_of_blk hbq]; rfl
  have m1 : wr.cell? ⟨oq, 1, none⟩ = some (.int .i64 V) := by rw [cell_of_blk hbq]; rfl
  have m2 : wr.cell? ⟨oq, 2, none⟩ = some (.int .i64 n) := by rw [cell_of_blk hbq]; rfl
  have m3 : wr.cell? ⟨oq, 3, none⟩ = some (.slice A6 n6 c6) := by rw [cell_of_blk hbq]; rfl
  have hoz := blk_lt hbq
  obtain ⟨PS, hPS⟩ : ∃ PS, planL st K M V ep q = PS := ⟨_, rfl⟩
  rw [hPS] at hS6 OB
  replace OB := Lib.hid OB
  replace AN := Lib.hid AN
  replace hbq := Lib.hid hbq
  replace hbw := Lib.hid hbw
  clear TA hlt hX hS hso hch hBwr hTw hTf hPS hin
  go_wp2_with fail
  go_region_held3 (fun w' => w'.cell? ⟨oq, 0, none⟩ = some (.string ⟨#[107, 101, 121]⟩) ∧ w'.cell? ⟨oq, 1, none⟩ = some (.int .i64 V) ∧ w'.cell? ⟨oq, 2, none⟩ = some (.int .i64 n) ∧ w'.cell? ⟨oq, 3, none⟩ = some (.slice A6 n6 c6))
    (first | exact ⟨mB0, mB1, mB2, mB3⟩ | exact ⟨mA0, mA1, mA2, mA3⟩ | go_keep)
    (first
      | (go_at_call 12; refine (AN.out _ (by first | exact Below.refl _ _ | exact below_drew' (Below.refl _ _))).mono ?_; rintro e wA ⟨rfl, hBA⟩; have hA : Below wr.heap.size wr wA := (by first | exact hBA | exact ⟨hBA.os, hBA.tape, hBA.output, hBA.size, hBA.block⟩); have mA0 := (hA.cell (p := ⟨oq, 0, none⟩) hoz).trans m0; have mA1 := (hA.cell (p := ⟨oq, 1, none⟩) hoz).trans m1; have mA2 := (hA.cell (p := ⟨oq, 2, none⟩) hoz).trans m2; have mA3 := (hA.cell (p := ⟨oq, 3, none⟩) hoz).trans m3; have hoA : oq < wA.heap.size := Nat.lt_of_lt_of_le hoz hA.size)
      | (go_at_call 17; refine (OB.out _ (by first | exact hA | exact below_drew' hA | exact hA.alloc hA.size _ | exact below_drew' (hA.alloc hA.size _) | exact (below_drew' hA).alloc hA.size _)).mono ?_; rintro e wB ⟨v8, rfl, hS8, hBB⟩; obtain ⟨A8, n8, c8, rfl⟩ := hS8.shape; have hB : Below wr.heap.size wr wB := (by first | exact below_then hA hA.size hBB | exact below_then (below_drew' hA) hA.size hBB | exact below_then (hA.alloc hA.size _) (by have := hA.size; simp; omega) hBB | exact below_then (below_drew' (hA.alloc hA.size _)) (by have := hA.size; simp; omega) hBB | exact below_then ((below_drew' hA).alloc hA.size _) (by have := hA.size; simp; omega) hBB); have mB0 := (hB.cell (p := ⟨oq, 0, none⟩) hoz).trans m0; have mB1 := (hB.cell (p := ⟨oq, 1, none⟩) hoz).trans m1; have mB2 := (hB.cell (p := ⟨oq, 2, none⟩) hoz).trans m2; have mB3 := (hB.cell (p := ⟨oq, 3, none⟩) hoz).trans m3; have hoB : oq < wB.heap.size := Nat.lt_of_lt_of_le hoz hB.size; replace hS8 := Lib.hid hS8)
      | (go_at_call 16; refine (objects_same _ _ 1 1 (0, 0) (0, 0) _ _ _ _ _ _ _ PS _ (by first | exact heap_alloc_new _ _ | exact heap_alloc2_new _ _ _ | exact blk_alloc (heap_alloc_new _ _) _) (by first | exact heap_alloc_new _ _ | exact heap_alloc2_new _ _ _ | exact blk_alloc (heap_alloc_new _ _) _ | exact blk_alloc (below_blk hBB (heap_alloc_new _ _)) _ | exact below_blk hBB (heap_alloc_new _ _)) (by first | exact hS8.out.below (((Below.refl _ _).alloc (Nat.le_refl _) _).alloc (by simp) _) | exact hS8.out.below ((Below.refl _ _).alloc (Nat.le_refl _) _)) (by first | exact hS6.out.below ((hB.alloc hB.size _).alloc (by have := hB.size; simp; omega) _) | exact hS6.out.below (hB.alloc hB.size _))).mono ?_; rintro e w9 ⟨rfl, qd, rfl⟩))
  all_goals go_wp2
  all_goals go_ret
  all_goals
    refine ⟨rfl, hbw.out.trans ((below_drewN' ?_ qd).mono hbw.out.size)⟩
    first
      | exact (hB.alloc hB.size _).alloc (by have := hB.size; simp; omega) _
      | exact hB.alloc hB.size _
end Go.Proofs.YtblddkjdglliaaaGreatDoor
