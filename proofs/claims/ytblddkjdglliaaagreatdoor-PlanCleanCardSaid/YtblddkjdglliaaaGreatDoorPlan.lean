/- Contract: Task.Plan. Conditions: a task as IsTask says; hash.turns holds its numbers. -/
import Derived.Test.YtblddkjdglliaaaGreatDoorTaskN
import Derived.Test.YtblddkjdglliaaaGreatDoorTarg
import Derived.Test.YtblddkjdglliaaaGreatDoorWeight
import Derived.Test.YtblddkjdglliaaaGreatDoorEnc
import Derived.Deep.CutRange
namespace Go.Proofs.YtblddkjdglliaaaGreatDoor
open Go.RowKit

theorem HSo.chg {O : Nat → Prop} {w w' : World} {B : Nat} {v : Value} {l : List StripeM} (h : HSo w B v l) (hc : Chg O w w') (h1 : ∀ k, v.ownBlock = some k → ¬ O k) (h2 : ∀ (b : Nat) (cur : Array Value) (fr : Nat × Nat), O b → w.heap[b]? ≠ some (.cells cur 3 fr)) : HSo w' B v l := by
  obtain ⟨us, hus, ho, hu⟩ := h
  refine ⟨us, hus, own_chg ho hc h1, fun i hi => ?_⟩
  obtain ⟨u, e, hh, hf⟩ := hu i hi
  exact ⟨u, e, hh.chg hc h2, hf⟩
def planS (st : List Int) (k m ver : Nat) (ep : Int) (n : Nat) : StripeM := ⟨16 * (ver : Int) + n, ep, targetsL weightL (16 * (ver : Int) + n) st (k + m)⟩
def planL (st : List Int) (k m ver : Nat) (ep : Int) (n : Nat) : List StripeM := (List.range n).map (planS st k m ver ep)
theorem planL_succ (st : List Int) (k m ver : Nat) (ep : Int) (n : Nat) : planL st k m ver ep (n + 1) = planL st k m ver ep n ++ [planS st k m ver ep n] := by
  simp [planL, List.range_succ]
theorem planL_length (st : List Int) (k m ver : Nat) (ep : Int) (n : Nat) : (planL st k m ver ep n).length = n := by simp [planL]
def TaskM.planned_ (t : TaskM) (st : List Int) (k m ver : Nat) (ep : Int) : TaskM :=
  { t with okey := t.key, oid := ver, osz := t.data.length, strs := planL st k m ver ep (countN k t.data.length), planned := true, at_ := 0 }

set_option maxRecDepth 100000 in
theorem plan_not (b : Nat) (t : TaskM) (k m ver ep : Int) (vst : Value) (w : World) (h : IsTask w b t) (ho : t.op ≠ 1) :
    Calls Tryz.prog 14 #[tptr b, .int .i64 k, .int .i64 m, .int .i64 ver, vst, .int .i64 ep] w fun e w' => e = .returned (.int .i64 1) ∧ w = w' := by
  have OP := h.op_
  generalize t.op = x at *
  have hx : (x != 1) = true := by simpa using ho
  clear h
  go_enter Tryz.func14, Tryz.ntmps14
  go_wp2_with (go_at_call 24; refine OP.mono ?_; rintro e w' ⟨rfl, rfl⟩)
  go_ret
  exact ⟨rfl, rfl⟩

theorem countN_le (k n : Nat) (hk : 1 ≤ k) (h : n ≤ 96) : countN k n ≤ 12 := by
  unfold countN
  split
  · omega
  · have : (n - 1) / (k * 8) ≤ (n - 1) / 8 := Nat.div_le_div_left (by omega) (by omega)
    omega

set_option maxRecDepth 100000 in
set_option maxHeartbeats 2000000 in
theorem plan_any (b : Nat) (t : TaskM) (k m ver : Nat) (ep : Int) (vst : Value) (st : List Int) (w : World) (h : IsTask w b t) (ho : t.op = 1) (hst : HC w vst st) (hl : st.length ≤ 12) (hk1 : 1 ≤ k) (hk4 : k ≤ 4) (hm3 : m ≤ 3) (hv : ver ≤ 100000) (hd : t.data.length ≤ 96) (hT : Turns w) :
    Calls Tryz.prog 14 #[tptr b, .int .i64 k, .int .i64 m, .int .i64 ver, vst, .int .i64 ep] w fun e w' =>
      (countN k t.data.length = 0 ∨ k + m ≤ (insL st).length) ∧ e = .returned (.int .i64 0) ∧ IsTask w' b (t.planned_ st k m ver ep) ∧ Chg (fun j => j = b) w w' ∨
      ¬ (countN k t.data.length = 0 ∨ k + m ≤ (insL st).length) ∧ e = .returned (.int .i64 10) ∧ Below w.heap.size w w' := by
  have OP := h.op_
  rw [ho] at OP
  obtain ⟨dv, sv, h1, h2, h3⟩ := h
  obtain ⟨D, d, e, rfl⟩ := h2.shape
  obtain ⟨hdl, _, _⟩ := h2.cell
  unfold TaskM.cells taskCells at h1
  have c2 : w.cell? ⟨b, 2, none⟩ = some (.string t.key) := by rw [cell_of_blk h1]; rfl
  have c3 : w.cell? ⟨b, 3, none⟩ = some (.slice D d e) := by rw [cell_of_blk h1]; rfl
  obtain ⟨Q, hQ⟩ : ∃ Q : Ending → World → Prop, Q = fun e w' =>
      (countN k t.data.length = 0 ∨ k + m ≤ (insL st).length) ∧ e = .returned (.int .i64 0) ∧ IsTask w' b (t.planned_ st k m ver ep) ∧ Chg (fun j => j = b) w w' ∨
      ¬ (countN k t.data.length = 0 ∨ k + m ≤ (insL st).length) ∧ e = .returned (.int .i64 10) ∧ Below w.heap.size w w' := ⟨_, rfl⟩
  rw [← hQ]
  have CN := fun W => count_any k d W hk1 hk4 (by omega)
  have hcl := countN_le k d hk1 (by omega)
  have hd96 : d ≤ 96 := by omega
  have HDL := Lib.hid hdl
  have TA := fun (n : Nat) W (hn : n ≤ 12) (hB : Below w.heap.size w W) => targets_any weightL weightOk (16 * (ver : Int) + n) vst st (k + m) W (by omega) (hst.below hB) hl (by omega) (by omega) (hT.below hB)
  obtain ⟨S, sn, sc, rfl⟩ := hst.shape
  have HQ := Lib.hid hQ
  have H1 := Lib.hid h1
  have H2 := Lib.hid h2
  replace TA := Lib.hid TA
  replace CN := Lib.hid CN
  replace OP := Lib.hid OP
  clear hQ h1 h2 h3 hst hT hdl hl hd ho
  unfold tptr at *
  go_enter Tryz.func14, Tryz.ntmps14
  go_upto_region 3 with (go_at_call 24; refine OP.out.mono ?_; rintro e w' ⟨rfl, rfl⟩)
  have d2 : w.drew.cell? ⟨b, 2, none⟩ = some (.string t.key) := c2
  have d3 : w.drew.cell? ⟨b, 3, none⟩ = some (.slice D d e) := c3
  have hbw : b ≠ w.heap.size := by have := blk_lt H1.out; omega
  have e2 : ∀ o, (w.drew.alloc o).cell? ⟨b, 2, none⟩ = some (.string t.key) := fun o => by rw [cell_of_blk (blk_alloc (w := w.drew) H1.out o)]; rfl
  have e3 : ∀ o, (w.drew.alloc o).cell? ⟨b, 3, none⟩ = some (.slice D d e) := fun o => by rw [cell_of_blk (blk_alloc (w := w.drew) H1.out o)]; rfl
  have k2 : ∀ o, (w.alloc o).cell? ⟨b, 2, none⟩ = some (.string t.key) := fun o => by rw [cell_of_blk (blk_alloc H1.out o)]; rfl
  have k3 : ∀ o, (w.alloc o).cell? ⟨b, 3, none⟩ = some (.slice D d e) := fun o => by rw [cell_of_blk (blk_alloc H1.out o)]; rfl
  go_cut [13] from 21 to 31 (fun o wx => o = .pointer (some ⟨w.heap.size, 0, none⟩) ∧ wx = w.drew.alloc (.cells #[.string t.key, .int .i64 ver, .int .i64 d, .slice none 0 0] 32))
  case first =>
    go_region_law (fail)
    all_goals (go_wp2_with fail; go_meet; exact ⟨rfl, rfl⟩)
  case rest =>
  obtain ⟨rfl, rfl⟩ := hcut
  obtain ⟨W0, hW0⟩ : ∃ W, w.drew = W := ⟨_, rfl⟩
  have hs0 : Hid (W0.heap.size = w.heap.size) := Lib.hid (by rw [← hW0]; rfl)
  have hB0 : Below w.heap.size w W0 := by rw [← hW0]; exact below_drew' (Below.refl _ _)
  have h10 := Lib.hid (below_blk hB0 H1.out)
  rw [hW0]
  have c30 : (W0.alloc (.cells #[.string t.key, .int .i64 ver, .int .i64 d, .slice none 0 0] 32)).cell? ⟨b, 3, none⟩ = some (.slice D d e) := by rw [cell_of_blk (blk_alloc h10.out _)]; rfl
  rw [← hs0.out]
  clear hW0 c2 c3 d2 d3 e2 e3 k2 k3 hbw
  go_wp2_with (go_at_call 47; refine (CN.out _).mono ?_; rintro e w' ⟨rfl, rfl⟩)
  obtain ⟨W1, hW1⟩ : ∃ W, W0.alloc (.cells #[.string t.key, .int .i64 ver, .int .i64 d, .slice none 0 0] 32) = W := ⟨_, rfl⟩
  have hb1 : W1.heap[W0.heap.size]? = some (.cells #[.string t.key, .int .i64 ver, .int .i64 d, .slice none 0 0] 32 (0, 0)) := by rw [← hW1]; exact heap_alloc_new W0 _
  have hB01 : Below W0.heap.size W0 W1 := by rw [← hW1]; exact (Below.refl _ _).alloc (Nat.le_refl _) _
  have hsz1 : W1.heap.size = W0.heap.size + 1 := by rw [← hW1]; simp
  have hB1 : Below w.heap.size w W1 := hB0.trans (hB01.mono hB0.size)
  have hT1 := Lib.hid (below_blk hB01 h10.out)
  have hbW := blk_lt h10.out
  rw [hW1] at c30 ⊢
  obtain ⟨q, hq⟩ : ∃ q, W0.heap.size = q := ⟨_, rfl⟩
  rw [hq] at hb1 hbW hsz1 hs0 ⊢
  replace hb1 := Lib.hid hb1
  replace hsz1 := Lib.hid hsz1
  have hBz := hB1.size
  obtain ⟨C, hC⟩ : ∃ C, countN k d = C := ⟨_, rfl⟩
  rw [hC] at hcl ⊢
  have HC' := Lib.hid hC
  have HB01 := Lib.hid hB01
  clear hW1 hq hC hB01 c30
  go_loopw [39] (fun i wr => ∃ n : Nat, n ≤ C ∧ i = .int .i64 n ∧ (0 < n → k + m ≤ (insL st).length) ∧ Chg (fun j => j = q) W1 wr ∧ ∃ sv, wr.heap[q]? = some (.cells #[.string t.key, .int .i64 ver, .int .i64 d, sv] 32 (0, 0)) ∧ HSo wr W1.heap.size sv (planL st k m ver ep n)) (fun i _ => C - (intOf i).toNat)
  case atStart => exact ⟨0, by omega, rfl, by omega, Chg.refl _ _, _, hb1.out, HSo.nil _ _⟩
  case round =>
    obtain ⟨n, hn, rfl, hin, hch, sv', hbq, hso⟩ := hrel
    have hBwr : Below w.heap.size w wr := hB1.trans (hch.to_below hB1.size fun j hj => by rw [← hs0.out, hj]; exact Nat.le_refl _)
    by_cases hlt : n < C
    · have TA1 := TA.out n wr (by omega) hBwr
      rw [Int.natCast_add] at TA1
      obtain ⟨x, hx⟩ : ∃ x : Int, 16 * (ver : Int) + n = x := ⟨_, rfl⟩
      rw [hx] at TA1
      by_cases hok : k + m ≤ (insL st).length
      · rw [decide_eq_true hok] at TA1
        replace TA1 := Lib.hid TA1
        obtain ⟨us, hus, hown, huu⟩ := hso
        rw [planL_length] at hown
        obtain ⟨Av, cv, rfl, _, _⟩ := own_shape hown
        replace hbq := Lib.hid hbq
        replace hown := Lib.hid hown
        replace huu := Lib.hid huu
        replace hus := Lib.hid hus
        have hx2 := Lib.hid hx
        have hxw : IntKind.i64.wrap (16 * (ver : Int) + n) = x := by rw [hx]; exact IntWalk.i64_in _ (by omega)
        clear hx
        go_wp2_with fail
        refine TA1.out.mono ?_
        rintro e W3 ⟨v3, rfl, hI3, hF3, hB3⟩
        have hq3 := below_blk hB3 hbq.out
        have m3 : W3.cell? ⟨q, 3, none⟩ = some (.slice Av n cv) := by rw [cell_of_blk hq3]; rfl
        obtain ⟨A3, n3, c3, rfl⟩ := hI3.shape
        have ho3 := own_zero (own_below hown.out hB3)
        have hqW1 : q < W1.heap.size := by rw [hsz1.out]; omega
        have hqn : ∀ k, (Value.slice Av n cv).ownBlock = some k → q ≠ k := by
          intro k hk e
          have := (hown.out.lt k hk).1
          omega
        replace hq3 := Lib.hid hq3
        replace hI3 := Lib.hid hI3
        replace hqn := Lib.hid hqn
        go_wp2_with (at_builtin; refine app_arm Tryz.ESt _ rfl (.tmp 58) (.tmp 63) rfl (v := .slice Av n cv) rfl (ho3.alloc _) rfl (Src.alloc W3 3 [_, _, _] _ 1 rfl) (by simp [Value.oneCell']) (by omega) (by unfold maxLen; omega) ?_; intro v5 W5 ho5 hg5 _; have hq5 := hg5.from_alloc.chg.blk hq3.out (fun e => hqn.out q e rfl); have m5 : W5.cell? ⟨q, 3, none⟩ = some (.slice Av n cv) := (by rw [cell_of_blk hq5]; rfl); have f5 := frozen_of_blk hq5 3; replace hq5 := Lib.hid hq5; obtain ⟨A5, k5, rfl, _⟩ := own_shape ho5)
        have hB13 : Below wr.heap.size wr W3 := hB3
        have hso' : HSo W5 W1.heap.size (.slice A5 (n + 1) k5) (planL st k m ver ep (n + 1)) := by
          rw [planL_succ]
          have hown' : wr.ownsRow W1.heap.size 36 3 (.slice Av n cv) (planL st k m ver ep n).length (cellsS (planL st k m ver ep n) us) := by rw [planL_length]; exact hown.out
          refine HSo.grow hus.out hown' huu.out hB13 (s := planS st k m ver ep n) ?_ (hF3.mono hch.size) (Nat.le_trans hch.size hB13.size) ?_ hg5
          · have := hI3.out
            rw [← hx2.out] at this
            exact this
          · rw [planL_length]
            have : (planS st k m ver ep n).id = x := hx2.out
            rw [this]
            exact ho5
        have hW5 : Chg (fun j => j = q) W1 W5 := by
          refine (hch.then_below hB13).trans hg5.from_alloc.chg ?_
          intro i hi e
          have := (hown.out.lt i e).1
          omega
        refine ⟨⟨n + 1, by omega, by go_num, fun _ => hok, hW5.then_setCell (a := ⟨q, 3, none⟩) (.inl rfl) _, _, blk_setCell hq5.out 3 _, hso'.chg (O := fun j => j = q) (Chg.setCell (O := fun j => j = q) (a := ⟨q, 3, none⟩) rfl _) ?_ ?_⟩, by simp [intOf]; omega⟩
        · intro j hj e
          obtain ⟨us', _, ho', _⟩ := hso'
          have := (ho'.lt j hj).1
          omega
        · rintro j cur fr rfl e
          rw [hq5.out] at e; cases e
      · rw [decide_eq_false hok] at TA1
        replace TA1 := Lib.hid TA1
        have hxw : IntKind.i64.wrap (16 * (ver : Int) + n) = x := by rw [hx]; exact IntWalk.i64_in _ (by omega)
        clear hx hbq hso
        go_wp2_with (go_at_call 48; refine TA1.out.mono ?_; rintro e W3 ⟨v3, rfl, hI3, hF3, hB3⟩; obtain ⟨A3, n3, c3, rfl⟩ := hI3.shape)
        rw [HQ.out]
        refine .inr ⟨?_, rfl, hBwr.trans (hB3.mono hBwr.size)⟩
        rw [← HDL.out, HC'.out]
        omega
    · obtain rfl : n = C := by omega
      have hbb := hch.blk hT1.out (by omega)
      have hS := hso.read
      obtain ⟨A6, n6, c6, rfl⟩ := hS.shape
      have m0 : wr.cell? ⟨q, 0, none⟩ = some (.string t.key) := by rw [cell_of_blk hbq]; rfl
      have m1 : wr.cell? ⟨q, 1, none⟩ = some (.int .i64 ver) := by rw [cell_of_blk hbq]; rfl
      have m2 : wr.cell? ⟨q, 2, none⟩ = some (.int .i64 d) := by rw [cell_of_blk hbq]; rfl
      have m3 : wr.cell? ⟨q, 3, none⟩ = some (.slice A6 n6 c6) := by rw [cell_of_blk hbq]; rfl
      have f4 := frozen_of_blk hbb 4
      have f5 := frozen_of_blk hbb 5
      have f6 := frozen_of_blk hbb 6
      have f7 := frozen_of_blk hbb 7
      have f8 := frozen_of_blk hbb 8
      have f9 := frozen_of_blk hbb 9
      have s4 : wr.cell? ⟨b, 4, none⟩ = some (.string t.okey) := by rw [cell_of_blk hbb]; rfl
      have s5 : wr.cell? ⟨b, 5, none⟩ = some (.int .i64 t.oid) := by rw [cell_of_blk hbb]; rfl
      have s6 : wr.cell? ⟨b, 6, none⟩ = some (.int .i64 t.osz) := by rw [cell_of_blk hbb]; rfl
      have s7 : wr.cell? ⟨b, 7, none⟩ = some sv := by rw [cell_of_blk hbb]; rfl
      have s8 : wr.cell? ⟨b, 8, none⟩ = some (.bool t.planned) := by rw [cell_of_blk hbb]; rfl
      have s9 : wr.cell? ⟨b, 9, none⟩ = some (.int .i64 t.at_) := by rw [cell_of_blk hbb]; rfl
      have hbq' : b ≠ q := by omega
      have HBB := Lib.hid hbb
      have HS6 := Lib.hid hS
      have HHB := Lib.hid (H2.out.below hBwr)
      clear hbb hbq hso hS
      go_wp2_with fail
      rw [HQ.out]
      have hfin := blk_setCell (blk_setCell (blk_setCell (blk_setCell (blk_setCell (blk_setCell HBB.out 4 (.string t.key)) 5 (.int .i64 ver)) 6 (.int .i64 d)) 7 (.slice A6 n6 c6)) 8 (.bool true)) 9 (.int .i64 0)
      have hch6 : Chg (fun j => j = b) wr ((((((wr.setCell ⟨b, 4, none⟩ (.string t.key)).setCell ⟨b, 5, none⟩ (.int .i64 ver)).setCell ⟨b, 6, none⟩ (.int .i64 d)).setCell ⟨b, 7, none⟩ (.slice A6 n6 c6)).setCell ⟨b, 8, none⟩ (.bool true)).setCell ⟨b, 9, none⟩ (.int .i64 0)) :=
        (((((Chg.setCell (O := fun j => j = b) (a := ⟨b, 4, none⟩) rfl _).then_setCell (a := ⟨b, 5, none⟩) (.inl rfl) _).then_setCell (a := ⟨b, 6, none⟩) (.inl rfl) _).then_setCell (a := ⟨b, 7, none⟩) (.inl rfl) _).then_setCell (a := ⟨b, 8, none⟩) (.inl rfl) _).then_setCell (a := ⟨b, 9, none⟩) (.inl rfl) _
      refine .inl ⟨?_, rfl, ⟨.slice D d e, .slice A6 n6 c6, ?_, ?_, ?_⟩, ?_⟩
      · rw [← HDL.out, HC'.out]; omega
      · refine hfin.trans ?_
        unfold TaskM.planned_ TaskM.cells taskCells
        rw [HDL.out]; rfl
      · refine HHB.out.chg hch6 ?_
        rintro b' cur fr rfl e
        rw [HBB.out] at e; cases e
      · have : (t.planned_ st k m ver ep).strs = planL st k m ver ep n := by
          show planL st k m ver ep (countN k t.data.length) = _
          rw [← HDL.out, HC'.out]
        rw [this]
        refine (HS6.out.chg hch6 ?_).mono (Nat.zero_le _)
        rintro b' cur ty fr hty rfl e
        rw [HBB.out] at e; cases e; rcases hty with h | h <;> cases h
      · exact (Chg.of_below hBwr).trans hch6 fun _ _ x => x
end Go.Proofs.YtblddkjdglliaaaGreatDoor
