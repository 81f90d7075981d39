/- Contracts: plan.Target, plan.Wrong where no stripe is elsewhere, plan.home. Conditions: a table as IsTab and TabOk say. | Contract: plan.Stray, given what its last argument keeps. Conditions: a pool as IsPool, a table as IsTab and TabOk say; held shards' numbers and places in bounds. | Plain law: the table that law 17's there makes. No condition. | Contract: law 17's there: the table of a few objects. Conditions: at most eight turns; states that may be, three of them in. | Contract: law 17's answers. Condition: the table of turns. -/
import Derived.Test.YtblddkjdglliaaaGreatDoorTableS
import Derived.Test.YtblddkjdglliaaaGreatDoorTarg
import Derived.Test.YtblddkjdglliaaaGreatDoorRefs
import Derived.Test.YtblddkjdglliaaaGreatDoorPoolX
import Derived.Test.YtblddkjdglliaaaGreatDoorPoolH
import Derived.Test.YtblddkjdglliaaaGreatDoorLawP
import Derived.Laws.BytesArg
import Derived.Test.YtblddkjdglliaaaGreatDoorROrd
import Derived.Test.YtblddkjdglliaaaGreatDoorTOthers
import Derived.Test.YtblddkjdglliaaaGreatDoorWeight
namespace Go.Proofs.YtblddkjdglliaaaGreatDoor
open Go.RowKit Go.Maps

set_option maxRecDepth 100000 in
set_option maxHeartbeats 1000000 in
theorem ptarget_any (wt : Int → Int → Int) (WT : WeightOk wt) (b mb : Nat) (T : TabM) (id : Int) (n : Nat) (w : World) (h : IsTab w b mb T) (ok : TabOk T) (hid : 0 ≤ id ∧ id ≤ 1000000000) (hf : (T.findS id).isSome = true) (hn1 : 1 ≤ n) (hn : n ≤ 1000) (hT : Turns w) :
    Calls Tryz.prog 68 #[tblptr b, .int .i64 id, .int .i64 n] w fun e w' => ∃ v', e = .returned (.tuple #[v', .bool (decide (n ≤ (insL T.states).length))]) ∧ HI w' v' (targetsL wt id T.states n) ∧ Below w.heap.size w w' := by
  have SG := Lib.hid (tstripe_get b mb T id w h ok ⟨by omega, by omega⟩)
  rw [hf] at SG
  have ST := Lib.hid fun W (hB : Below w.heap.size w W) => tstates_any b mb T W (h.below hB) ok
  have TG := Lib.hid fun W v (hB : Below w.heap.size w W) (hv : HI W v T.states) => targets_any wt WT id v T.states n W hid hv.toC ok.st.1 hn1 hn (hT.below hB)
  have hnI : (1 : Int) ≤ n ∧ (n : Int) ≤ 1000 := by omega
  generalize T.strAt id = s at *
  obtain ⟨sid, sep, sl⟩ := s
  dsimp only at SG
  generalize decide (n ≤ (insL T.states).length) = ans at *
  clear h ok hf hT
  unfold tblptr at *
  go_enter Tryz.func68, Tryz.ntmps68
  go_wp2_with fail
  refine SG.out.mono ?_
  rintro e w1 ⟨v1, rfl, hI1, hB1⟩
  obtain ⟨A1, n1, c1, rfl⟩ := hI1.shape
  replace hB1 := Lib.hid hB1
  clear hI1 SG
  go_wp2_with fail
  obtain ⟨W2, hW2⟩ : ∃ W, w1.alloc (.cells #[.int .i64 sid, .int .i64 sep, .slice A1 n1 c1] 36) = W := ⟨_, rfl⟩
  have hB2 : Below w.heap.size w W2 := by rw [← hW2]; exact hB1.out.alloc hB1.out.size _
  rw [hW2]
  clear hW2
  refine (ST.out W2 hB2).mono ?_
  rintro e w3 ⟨v3, rfl, hI3, -, hB3⟩
  have hB23 := hB2.trans (hB3.mono hB2.size)
  have TG3 := Lib.hid (TG.out w3 v3 hB23 hI3)
  obtain ⟨A3, n3, c3, rfl⟩ := hI3.shape
  replace hB23 := Lib.hid hB23
  clear TG ST hB3 hI3 hB2
  go_wp2_with fail
  refine TG3.out.mono ?_
  rintro e w4 ⟨v4, rfl, hI4, -, hB4⟩
  have hB := Lib.hid (hB23.out.trans (hB4.mono hB23.out.size))
  obtain ⟨A4, n4, c4, rfl⟩ := hI4.shape
  replace hI4 := Lib.hid hI4
  clear hB4 TG3
  go_wp2
  go_ret2
  exact ⟨_, rfl, hI4.out, hB.out⟩

set_option maxRecDepth 100000 in
set_option maxHeartbeats 1000000 in
theorem home_any (id ep d p : Int) (v : Value) (xs : List Int) (w : World) (h : HI w v xs) (hl : xs.length ≤ 1000) (hp : 0 ≤ p) :
    Calls Tryz.prog 78 #[.agg #[.int .i64 id, .int .i64 ep, v], .int .i64 d, .int .i64 p] w fun e w' => e = .returned (.bool (decide (p < xs.length) && decide (xs[p.toNat]?.getD 0 = d))) ∧ Below w.heap.size w w' := by
  obtain ⟨A, n, c, rfl⟩ := h.shape
  have hn := h.toC.cell.1
  obtain ⟨k, rfl⟩ : ∃ k : Nat, p = k := ⟨p.toNat, by omega⟩
  have hcell : k < n → ∃ bb o, A = some ⟨bb, o, none⟩ ∧ bb < w.heap.size ∧ w.cell? ⟨bb, o + k, none⟩ = some (.int .i64 (xs[k]?.getD 0)) := by
    intro hk
    obtain ⟨A', c', e, _, _, h3⟩ := h
    simp only [Value.slice.injEq] at e
    obtain ⟨rfl, _, _⟩ := e
    obtain ⟨bb, o, cur, _, rfl, hbb, hcc⟩ := h3 (by omega)
    exact ⟨bb, o, rfl, blk_lt hbb, by rw [cell_of_blk hbb]; exact hcc k (by omega)⟩
  rw [Int.toNat_natCast, ← hn]
  have hn1 : n ≤ 1000 := by omega
  generalize xs[k]?.getD 0 = x at *
  clear h hn hl hp
  by_cases hk : k < n
  · obtain ⟨bb, o, rfl, hbb, hc⟩ := hcell hk
    have hkI : (0 : Int) ≤ k ∧ (k : Int) < n := by omega
    have d1 : decide ((k : Int) < n) = true := decide_eq_true hkI.2
    rw [d1]
    go_enter Tryz.func78, Tryz.ntmps78
    go_wp2
    go_ret
    exact ⟨by rw [Bool.true_and]; rfl, (Below.refl _ w).alloc (Nat.le_refl _) _⟩
  · have d1 : decide ((k : Int) < n) = false := decide_eq_false (by omega)
    rw [d1]
    clear hcell
    go_enter Tryz.func78, Tryz.ntmps78
    go_wp2
    go_ret
    exact ⟨rfl, (Below.refl _ w).alloc (Nat.le_refl _) _⟩

theorem eqI_any (v1 v2 : Value) (xs ys : List Int) (w : World) (h1 : HI w v1 xs) (h2 : HI w v2 ys) (hl1 : xs.length ≤ 1000) (hl2 : ys.length ≤ 1000) :
    Calls Tryz.prog 110 #[v1, v2] w fun e w' => e = .returned (.bool (decide (xs = ys))) ∧ ∃ q, w' = w.drewN q := by
  obtain ⟨A1, c1, rfl, _, _, k1⟩ := h1
  obtain ⟨A2, c2, rfl, _, _, k2⟩ := h2
  by_cases hne : xs.length = ys.length
  · by_cases h0 : xs.length = 0
    · have ex : xs = [] := List.eq_nil_of_length_eq_zero h0
      have ey : ys = [] := List.eq_nil_of_length_eq_zero (by omega)
      subst ex; subst ey
      exact (Tryz.slices_Equal_int_empty A1 A2 c1 0 c2 w (by omega)).mono fun e w' h => ⟨by rw [h.1]; rfl, 0, by rw [h.2]; rfl⟩
    · obtain ⟨b1, o1, cur1, fr1, rfl, hb1, hc1⟩ := k1 (by omega)
      obtain ⟨b2, o2, cur2, fr2, rfl, hb2, hc2⟩ := k2 (by omega)
      refine (Tryz.slices_Equal_int b1 o1 xs.length c1 b2 o2 ys.length c2 xs ys w (Nat.le_refl _) (Nat.le_refl _) (by omega) (by omega) (fun j hj => ?_) (fun j hj => ?_)).mono fun e w' h => ⟨?_, h.2⟩
      · rw [cell_of_blk hb1, hc1 j hj, List.getD_eq_getElem?_getD]
      · rw [cell_of_blk hb2, hc2 j hj, List.getD_eq_getElem?_getD]
      · rw [h.1, List.take_of_length_le (Nat.le_refl _), List.take_of_length_le (Nat.le_refl _)]
        have : (xs == ys) = decide (xs = ys) := by rw [Bool.eq_iff_iff]; simp
        rw [this]
  · exact (Tryz.slices_Equal_int_lens A1 A2 xs.length c1 ys.length c2 w hne).mono fun e w' h => ⟨by rw [h.1, decide_eq_false (fun e => hne (by rw [e]))], 0, by rw [h.2]; rfl⟩
theorem TabOk.in_all {T : TabM} (h : TabOk T) {s : StripeM} (hs : s ∈ T.all) : (T.findS s.id).isSome = true ∧ 0 ≤ s.id ∧ s.id ≤ 1000000000 ∧ s.locs.length ≤ 7 ∧ StrOk T.k T.m s := by
  obtain ⟨o, ho, hso⟩ := List.mem_flatMap.1 hs
  obtain ⟨i, hi, rfl⟩ := List.getElem_of_mem hso
  have hob := h.objs o ho
  obtain ⟨e, hk⟩ := hob.ids i _ (List.getElem?_eq_getElem hi)
  have hlen := hob.few h.k.1
  have hid := hob.id
  refine ⟨?_, by omega, by omega, (h.strs ho).2 _ hso, hk⟩
  rw [h.found ho (by unfold hits; rw [e]; simp; omega)]
  rfl
def wrongS (wt : Int → Int → Int) (T : TabM) (n : Nat) (s : StripeM) : Bool := decide (n ≤ (insL T.states).length) && !decide (targetsL wt s.id T.states n = s.locs)

set_option maxRecDepth 100000 in
set_option maxHeartbeats 2000000 in
theorem pwrong_any (wt : Int → Int → Int) (WT : WeightOk wt) (b mb : Nat) (T : TabM) (n : Nat) (w : World) (h : IsTab w b mb T) (ok : TabOk T) (h1 : 1 ≤ T.all.length) (h12 : T.all.length ≤ 12) (hn1 : 1 ≤ n) (hn : n ≤ 1000) (hT : Turns w) :
    Calls Tryz.prog 69 #[tblptr b, .int .i64 n] w fun e w' => ∃ A m c, e = .returned (.slice A m c) ∧ m = (T.all.filter (wrongS wt T n)).length ∧ Below w.heap.size w w' := by
  have SS := Lib.hid (tstripes_any b mb T w h ok h1 h12)
  have hnI : (1 : Int) ≤ n ∧ (n : Int) ≤ 1000 := by omega
  have PT := Lib.hid fun id W (hB : Below w.heap.size w W) (hid : 0 ≤ id ∧ id ≤ 1000000000) (hf : (T.findS id).isSome = true) => ptarget_any wt WT b mb T id n W (h.below hB) ok hid hf hn1 hn (hT.below hB)
  have TL : Hid (∀ id, (targetsL wt id T.states n).length ≤ 1000) := Lib.hid fun id => by
    unfold targetsL
    split
    · rw [List.length_take]; omega
    · simp
  have OK := Lib.hid ok
  have H12 := Lib.hid h12
  clear h ok h1 h12 hT WT
  unfold tblptr at *
  go_enter Tryz.func69, Tryz.ntmps69
  go_wp2_with fail
  refine SS.out.mono ?_
  rintro e w1 ⟨v1, l, rfl, hp, hS, hB1⟩
  have hm12 : l.length ≤ 12 := by rw [hp.length_eq]; exact H12.out
  obtain ⟨A1, m1, c1, rfl⟩ := hS.shape
  have hml := hS.cell.1
  have hm1 : m1 ≤ 12 := by omega
  replace hml := Lib.hid hml
  replace hS := Lib.hid hS
  replace hp := Lib.hid hp
  replace hB1 := Lib.hid hB1
  clear SS hm12
  go_wp2_with fail
  go_loopw [5, 13] (fun u i wr => ∃ k : Nat, k ≤ m1 ∧ i = .int .i64 k ∧ Below w1.heap.size w1 wr ∧ ∃ xs : List Int, xs.length = ((l.take k).filter (wrongS wt T n)).length ∧ xs.length ≤ k ∧ wr.ownsRow w1.heap.size 3 1 u xs.length (ints .i64 xs)) (fun _ i _ => m1 - (intOf i).toNat)
  case atStart => exact ⟨0, by omega, rfl, Below.refl _ _, [], by simp, by simp, World.ownsRow_nil _ _ _ _⟩
  case round =>
    obtain ⟨k, hk, rfl, hB, xs, hx, hxk, ho⟩ := hrel
    have hBw := hB1.out.trans (hB.mono hB1.out.size)
    by_cases hlt : k < m1
    · obtain ⟨g, u, rfl, c0, c1, c2, hu⟩ := (hS.out.below hB).get k hlt
      have hkl : k < l.length := by rw [← hml.out]; exact hlt
      have hmem : l[k]?.getD .zero ∈ T.all := hp.out.mem_iff.1 (by rw [List.getElem?_eq_getElem hkl]; exact List.getElem_mem hkl)
      have hts : l.take (k + 1) = l.take k ++ [l[k]?.getD .zero] := by rw [List.take_add_one]; simp [List.getElem?_eq_getElem hkl]
      obtain ⟨hf, hid0, hid1, hll, -⟩ := OK.out.in_all hmem
      obtain ⟨s, hs⟩ : ∃ s, l[k]?.getD .zero = s := ⟨_, rfl⟩
      rw [hs] at c0 c1 hu hts hf hid0 hid1 hll
      obtain ⟨sid, sep, sl⟩ := s
      dsimp only at c0 c1 hu hf hid0 hid1 hll
      obtain ⟨Au, nu, cu, rfl⟩ := hu.shape
      obtain ⟨Av, cv, rfl, -, -⟩ := own_shape ho
      have PTK := Lib.hid fun W (hB : Below wr.heap.size wr W) => PT.out sid W (hBw.trans (hB.mono hBw.size)) ⟨hid0, hid1⟩ hf
      have EQ := Lib.hid fun W v (hB : Below wr.heap.size wr W) (hv : HI W v (targetsL wt sid T.states n)) => eqI_any v _ _ sl W hv (hu.below hB) (TL.out sid) (by omega)
      have hwr : Hid (wrongS wt T n ⟨sid, sep, sl⟩ = (decide (n ≤ (insL T.states).length) && !decide (targetsL wt sid T.states n = sl))) := Lib.hid rfl
      generalize targetsL wt sid T.states n = tl at *
      generalize decide (n ≤ (insL T.states).length) = ins at *
      replace hts := Lib.hid hts
      replace ho := Lib.hid ho
      replace hx := Lib.hid hx
      clear hs hu hkl hmem hf hll hid0 hid1
      go_wp2_with fail
      obtain ⟨W2, hW2⟩ : ∃ W, wr.alloc (.cells #[.int .i64 sid, .int .i64 sep, .slice Au nu cu] 36) = W := ⟨_, rfl⟩
      have hB2 : Below wr.heap.size wr W2 := by rw [← hW2]; exact (Below.refl _ _).alloc (Nat.le_refl _) _
      have hb2 : W2.heap[wr.heap.size]? = some (.cells #[.int .i64 sid, .int .i64 sep, .slice Au nu cu] 36 (0, 0)) := by rw [← hW2]; exact heap_alloc_new wr _
      rw [hW2]
      clear hW2
      obtain ⟨q, hq⟩ : ∃ q, wr.heap.size = q := ⟨_, rfl⟩
      rw [hq] at hb2 ⊢
      refine (PTK.out W2 (hq ▸ hB2)).mono ?_
      rintro e w3 ⟨v3, rfl, hI3, hB3⟩
      have hb3 := below_blk hB3 hb2
      have m0 : w3.cell? ⟨q, 0, none⟩ = some (.int .i64 sid) := by rw [cell_of_blk hb3]; rfl
      have m2 : w3.cell? ⟨q, 2, none⟩ = some (.slice Au nu cu) := by rw [cell_of_blk hb3]; rfl
      have hB13 : Below wr.heap.size wr w3 := hB2.trans (hB3.mono hB2.size)
      have EQ3 := Lib.hid (EQ.out w3 v3 hB13 hI3)
      obtain ⟨A3, n3, c3, rfl⟩ := hI3.shape
      have ho3 := own_below ho.out hB13
      have hqs : q < w3.heap.size := blk_lt hb3
      have hBx := hB.trans (hB13.mono hB.size)
      replace hBx := Lib.hid hBx
      clear hb2 hB2 hB3 hI3 hB13 PTK EQ hb3 hq
      cases ins
      · go_wp2
        refine ⟨⟨k + 1, by omega, by go_num, hBx.out, xs, ?_, by omega, ho3⟩, by simp [intOf]; omega⟩
        rw [hts.out, List.filter_append, List.length_append, ← hx.out]
        simp [hwr.out]
      · by_cases heq : tl = sl
        · have d1 : decide (tl = sl) = true := decide_eq_true heq
          rw [d1] at EQ3 hwr
          go_wp2_with fail
          refine EQ3.out.mono ?_
          rintro e w' ⟨rfl, qq, rfl⟩
          replace ho3 : (w3.drewN qq).ownsRow w1.heap.size 3 1 (.slice Av xs.length cv) xs.length (ints .i64 xs) := ho3
          have hBy := Lib.hid (below_drewN' hBx.out qq)
          go_wp2
          refine ⟨⟨k + 1, by omega, by go_num, hBy.out, xs, ?_, by omega, ho3⟩, by simp [intOf]; omega⟩
          rw [hts.out, List.filter_append, List.length_append, ← hx.out]
          simp [hwr.out]
        · have d1 : decide (tl = sl) = false := decide_eq_false heq
          rw [d1] at EQ3 hwr
          go_wp2_with fail
          refine EQ3.out.mono ?_
          rintro e w' ⟨rfl, qq, rfl⟩
          have ho4 : (w3.drewN qq).ownsRow w1.heap.size 3 1 (.slice Av xs.length cv) xs.length (ints .i64 xs) := ho3
          have ho5 := own_zero ho4
          have hBy := Lib.hid (below_drewN' hBx.out qq)
          have m0' : (w3.drewN qq).cell? ⟨q, 0, none⟩ = some (.int .i64 sid) := m0
          have hqs' : q < (w3.drewN qq).heap.size := hqs
          obtain ⟨W4, hW4⟩ : ∃ W, w3.drewN qq = W := ⟨_, rfl⟩
          rw [hW4] at ho4 ho5 hBy m0' hqs' ⊢
          clear hW4 m0 hqs ho3 m2
          go_wp2_with (at_builtin; refine app_arm Tryz.EI _ rfl (.tmp 33) (.tmp 36) rfl (v := .slice Av xs.length cv) rfl (ho5.alloc _) rfl (Src.alloc _ 1 [_] _ 1 rfl) (by simp [Value.oneCell']) (by omega) (by unfold maxLen; omega) ?_; intro v5 W5 ho6 hg5 _; obtain ⟨A5, k5, rfl, _⟩ := own_shape ho6)
          have hgr := hg5.from_alloc
          refine ⟨⟨k + 1, by omega, by go_num, hBy.out.trans (hgr.chg.to_below hBy.out.size fun q e => (ho4.lt q e).1), xs ++ [sid], ?_, by simp; omega, ?_⟩, by simp [intOf]; omega⟩
          · rw [hts.out, List.filter_append, List.length_append, List.length_append, ← hx.out]
            simp [hwr.out]
          · rw [List.length_append, List.length_singleton]
            refine own_base (B := 0) ?_ fun q e => ?_
            · simpa [ints] using ho6
            · rcases hgr.at_ with f | f
              · exact (ho4.lt q (f ▸ e)).1
              · exact Nat.le_trans hBy.out.size (f q e)
    · obtain rfl : k = m1 := by omega
      rw [List.take_of_length_le (by rw [← hml.out]; exact Nat.le_refl _)] at hx
      obtain ⟨Av, cv, rfl, -, -⟩ := own_shape ho
      have hfin : xs.length = (T.all.filter (wrongS wt T n)).length := by rw [hx]; exact (hp.out.filter _).length_eq
      replace hfin := Lib.hid hfin
      clear ho hx
      go_wp2
      go_ret
      exact ⟨_, _, _, rfl, hfin.out, hBw⟩
end Go.Proofs.YtblddkjdglliaaaGreatDoor
namespace Go.Proofs.YtblddkjdglliaaaGreatDoor
open Go.RowKit Go.Maps

def homeS (s : StripeM) (d p : Int) : Bool := decide (p < s.locs.length) && decide (s.locs[p.toNat]?.getD 0 = d)
/-- A shard that has no place. -/
def badS (T : TabM) (kept : Int → Int × Int → Bool) (d : Int) (x : Int × Int) : Bool := !homeS (T.strAt x.1) d x.2 && !kept d x
def allHeld (m : PoolM) (n : Nat) : List (Int × Int × Int) := (List.range n).flatMap fun (d : Nat) => (m.held (d : Int)).map fun x => ((d : Int), x.1, x.2)
def strayR (m : PoolM) (T : TabM) (kept : Int → Int × Int → Bool) : Value :=
  match (allHeld m m.list.length).find? fun y => badS T kept y.1 y.2 with
  | some y => .tuple #[.int .i64 y.1, .int .i64 y.2.1, .int .i64 y.2.2, .bool true]
  | none => .tuple #[.int .i64 0, .int .i64 0, .int .i64 0, .bool false]
theorem allHeld_succ (m : PoolM) (n : Nat) : allHeld m (n + 1) = allHeld m n ++ (m.held (n : Int)).map fun x => ((n : Int), x.1, x.2) := by
  unfold allHeld
  rw [List.range_succ, List.flatMap_append]
  simp
/-- The first bad one, behind a prefix that has none. -/
theorem find_behind {α : Type} (p : α → Bool) (l r : List α) (x : α) (h : ∀ y ∈ l, p y = false) (hx : p x = true) : (l ++ x :: r).find? p = some x := by
  rw [List.find?_append, List.find?_eq_none.2 (fun y hy => by rw [h y hy]; simp), List.find?_cons, hx]
  rfl
theorem stray_hit (m : PoolM) (T : TabM) (kept : Int → Int × Int → Bool) (d j : Nat) (hd : d < m.list.length) (hj : j < (m.held (d : Int)).length) (h1 : ∀ y ∈ allHeld m d, badS T kept y.1 y.2 = false) (h2 : ∀ i, i < j → badS T kept d ((m.held (d : Int))[i]?.getD (0, 0)) = false)
    (h3 : badS T kept d ((m.held (d : Int))[j]?.getD (0, 0)) = true) : strayR m T kept = .tuple #[.int .i64 d, .int .i64 ((m.held (d : Int))[j]?.getD (0, 0)).1, .int .i64 ((m.held (d : Int))[j]?.getD (0, 0)).2, .bool true] := by
  have hpre : ∃ r, allHeld m m.list.length = allHeld m (d + 1) ++ r := by
    have : ∀ n, d + 1 ≤ n → ∃ r, allHeld m n = allHeld m (d + 1) ++ r := by
      intro n hn
      induction n with
      | zero => omega
      | succ n ih =>
        by_cases h : d + 1 = n + 1
        · exact ⟨[], by rw [h, List.append_nil]⟩
        · obtain ⟨r, hr⟩ := ih (by omega)
          exact ⟨r ++ _, by rw [allHeld_succ, hr, List.append_assoc]⟩
    exact this _ hd
  obtain ⟨r, hr⟩ := hpre
  obtain ⟨l, hl0⟩ : ∃ l, m.held (d : Int) = l := ⟨_, rfl⟩
  rw [hl0] at hj h2 h3 ⊢
  have hl : l = l.take j ++ l[j]?.getD (0, 0) :: l.drop (j + 1) := by
    rw [List.getElem?_eq_getElem hj, Option.getD_some, ← List.drop_eq_getElem_cons hj, List.take_append_drop]
  have hf : (allHeld m m.list.length).find? (fun y => badS T kept y.1 y.2) = some ((d : Int), (l[j]?.getD (0, 0)).1, (l[j]?.getD (0, 0)).2) := by
    rw [hr, allHeld_succ, hl0]
    generalize l[j]?.getD (0, 0) = x at *
    have e : l.map (fun x => ((d : Int), x.1, x.2)) = (l.take j).map (fun x => ((d : Int), x.1, x.2)) ++ ((d : Int), x.1, x.2) :: (l.drop (j + 1)).map (fun x => ((d : Int), x.1, x.2)) := by
      conv => lhs; rw [hl]
      rw [List.map_append, List.map_cons]
    rw [e, ← List.append_assoc, List.append_assoc, List.cons_append]
    refine find_behind _ _ _ _ (fun y hy => ?_) h3
    rcases List.mem_append.1 hy with hy | hy
    · exact h1 y hy
    · obtain ⟨z, hz, rfl⟩ := List.mem_map.1 hy
      obtain ⟨i, hi, rfl⟩ := List.getElem_of_mem hz
      have hij : i < j := by rw [List.length_take] at hi; omega
      have := h2 i hij
      rw [List.getElem?_eq_getElem (by omega)] at this
      rw [List.getElem_take]
      exact this
  unfold strayR
  rw [hf]
theorem stray_none (m : PoolM) (T : TabM) (kept : Int → Int × Int → Bool) (h1 : ∀ y ∈ allHeld m m.list.length, badS T kept y.1 y.2 = false) : strayR m T kept = .tuple #[.int .i64 0, .int .i64 0, .int .i64 0, .bool false] := by
  unfold strayR
  rw [List.find?_eq_none.2 (fun y hy => by rw [h1 y hy]; simp)]

set_option maxRecDepth 100000 in
set_option maxHeartbeats 4000000 in
theorem stray_any (p : Nat) (L : Lay) (m : PoolM) (b mb : Nat) (T : TabM) (kA : Option Addr) (kn kc : Nat) (kept : Int → Int × Int → Bool) (w : World) (hP : IsPool w p L m) (h : IsTab w b mb T) (ok : TabOk T) (hd : m.list.length ≤ 1000)
    (hx : ∀ (d : Nat), ∀ x ∈ m.held (d : Int), 0 ≤ x.2 ∧ -1000000000000 ≤ x.1 ∧ x.1 ≤ 1000000000000)
    (hlen : ∀ id, (T.strAt id).locs.length ≤ 1000)
    (KF : ∀ W (p12 p10 : Nat) (d : Int) (x : Int × Int), Below w.heap.size w W → W.cell? ⟨p12, 0, none⟩ = some (.int .i64 x.1) → W.cell? ⟨p12, 1, none⟩ = some (.int .i64 x.2) → W.cell? ⟨p10, 0, none⟩ = some (.int .i64 d) → p12 < W.heap.size → p10 < W.heap.size →
      Calls Tryz.prog 79 #[.slice kA kn kc, .func (.func 77) #[] #[.pointer (some ⟨p12, 0, none⟩), .pointer (some ⟨p10, 0, none⟩)]] W fun e w' => e = .returned (.bool (kept d x)) ∧ Below W.heap.size W w') :
    Calls Tryz.prog 38 #[pptr p, tblptr b, .slice kA kn kc] w fun e w' => e = .returned (strayR m T kept) ∧ Below w.heap.size w w' := by
  have PL := Lib.hid (plen_any p L m w hP)
  have PH := Lib.hid fun (d : Int) W (hB : Below w.heap.size w W) => pheld_any p L m d W (hP.below hB)
  have SG := Lib.hid fun id W (hB : Below w.heap.size w W) hid => tstripe_get b mb T id W (h.below hB) ok hid
  have HO := Lib.hid fun id W v d p (hv : HI W v (T.strAt id).locs) (hp : 0 ≤ p) => home_any (T.strAt id).id (T.strAt id).epoch d p v (T.strAt id).locs W hv (hlen id) hp
  have HX := Lib.hid hx
  have HC := Lib.hid fun (n : Int) => cap_le hP n
  have KF' := Lib.hid KF
  obtain ⟨N, hN⟩ : ∃ N, m.list.length = N := ⟨_, rfl⟩
  rw [hN] at PL hd
  replace hN := Lib.hid hN
  clear hP h ok hx hlen KF
  unfold tblptr pptr at *
  go_enter Tryz.func38, Tryz.ntmps38
  go_wp2_with (go_at_call 76; refine PL.out.mono ?_; rintro e w' ⟨rfl, rfl⟩)
  go_loopw [18] (fun i wr => ∃ d : Nat, d ≤ N ∧ i = .int .i64 d ∧ Below w.heap.size w wr ∧ ∀ y ∈ allHeld m d, badS T kept y.1 y.2 = false) (fun i _ => N - (intOf i).toNat)
  case atStart => exact ⟨0, by omega, rfl, Below.refl _ _, by simp [allHeld]⟩
  case round =>
    obtain ⟨d, hdd, rfl, hB, hno⟩ := hrel
    replace hno := Lib.hid hno
    by_cases hlt : d < N
    · go_wp2_with fail
      obtain ⟨q0, hq0⟩ : ∃ q, wr.heap.size = q := ⟨_, rfl⟩
      obtain ⟨W1, hW1⟩ : ∃ W, wr.alloc (.cells #[.int .i64 (d : Int)] 3) = W := ⟨_, rfl⟩
      have hb1 : W1.heap[q0]? = some (.cells #[.int .i64 (d : Int)] 3 (0, 0)) := by rw [← hW1, ← hq0]; exact heap_alloc_new wr _
      have hB1 : Below w.heap.size w W1 := by rw [← hW1]; exact hB.alloc hB.size _
      rw [hW1, hq0]
      clear hW1 hq0
      refine (PH.out d W1 hB1).mono ?_
      rintro e w2 ⟨v2, rfl, ho2, -, hB2⟩
      have hB12 := hB1.trans (hB2.mono hB1.size)
      have hb2 := below_blk hB2 hb1
      have hXd := HX.out d
      have hstep := allHeld_succ m d
      have hhit := stray_hit m T kept d
      rw [hN.out] at hhit
      have hl128 : (m.held (d : Int)).length ≤ 128 := Nat.le_trans (heldTo_length m d _) (HC.out d)
      obtain ⟨l, hl⟩ : ∃ l, m.held (d : Int) = l := ⟨_, rfl⟩
      rw [hl] at ho2 hXd hstep hhit hl128
      obtain ⟨A2, c2, rfl, -, -⟩ := own_shape ho2
      obtain ⟨n, hn⟩ : ∃ n, l.length = n := ⟨_, rfl⟩
      rw [hn] at ho2 hhit hl128 ⊢
      replace hXd := Lib.hid hXd
      replace hstep := Lib.hid hstep
      replace hhit := Lib.hid hhit
      replace ho2 := Lib.hid ho2
      replace hB12 := Lib.hid hB12
      replace hb2 := Lib.hid hb2
      replace hn := Lib.hid hn
      clear hl hB2 hB1 hb1 hB
      go_wp2_with fail
      go_loopw [25] (fun i wi => ∃ j : Nat, j ≤ n ∧ i = .int .i64 j ∧ Below w2.heap.size w2 wi ∧ ∀ i, i < j → badS T kept d (l[i]?.getD (0, 0)) = false) (fun i _ => n - (intOf i).toNat)
      case atStart => exact ⟨0, by omega, rfl, Below.refl _ _, by simp⟩
      case round =>
        obtain ⟨j, hj, rfl, hBi, hnj⟩ := hrel
        replace hnj := Lib.hid hnj
        by_cases hjn : j < n
        · obtain ⟨g, cur, rfl, -, -, -, hbg, -, -, hcell⟩ := own_pos (own_below ho2.out hBi) (by omega)
          have hjl : j < l.length := by rw [hn.out]; exact hjn
          obtain ⟨k0, k1⟩ := pairsV_get l j hjl
          have e0 := hcell (2 * j) (by omega)
          have e1 := hcell (2 * j + 1) (by omega)
          rw [k0] at e0
          rw [k1] at e1
          have hxx := hXd.out (l[j]?.getD (0, 0)) (by rw [List.getElem?_eq_getElem hjl]; exact List.getElem_mem hjl)
          have hbad : Hid (badS T kept d (l[j]?.getD (0, 0)) = (!homeS (T.strAt (l[j]?.getD (0, 0)).1) d (l[j]?.getD (0, 0)).2 && !kept d (l[j]?.getD (0, 0)))) := Lib.hid rfl
          have hhj := Lib.hid (hhit.out j hlt hjn hno.out hnj.out)
          have hnj1 : Hid (badS T kept d (l[j]?.getD (0, 0)) = false → ∀ i, i < j + 1 → badS T kept d (l[i]?.getD (0, 0)) = false) := Lib.hid fun h i hi => by
            by_cases he : i = j
            · rw [he]; exact h
            · exact hnj.out i (by omega)
          have hbi := below_blk hBi hb2.out
          have d0 : wr.cell? ⟨q0, 0, none⟩ = some (.int .i64 (d : Int)) := by rw [cell_of_blk hbi]; rfl
          have hBwi := Lib.hid (hB12.out.trans (hBi.mono hB12.out.size))
          obtain ⟨⟨xs, xp⟩, hxj⟩ : ∃ x, l[j]?.getD (0, 0) = x := ⟨_, rfl⟩
          rw [hxj] at e0 e1 hxx hbad hhj hnj1
          dsimp only at e0 e1 hxx hbad hhj hnj1
          have e0' : wr.cell? ⟨g, j * 2, none⟩ = some (.int .i64 xs) := by rw [Nat.mul_comm]; exact e0
          have e1' : wr.cell? ⟨g, j * 2 + 1, none⟩ = some (.int .i64 xp) := by rw [Nat.mul_comm]; exact e1
          replace hbi := Lib.hid hbi
          have hq0i : q0 < wr.heap.size := blk_lt hbi.out
          clear hcell k0 k1 e0 e1 hxj hjl hbg hnj
          go_wp2_with fail
          obtain ⟨q, hq⟩ : ∃ q, wr.heap.size = q := ⟨_, rfl⟩
          obtain ⟨W3, hW3⟩ : ∃ W, wr.alloc (.cells #[.int .i64 xs, .int .i64 xp] 80) = W := ⟨_, rfl⟩
          have hb3 : W3.heap[q]? = some (.cells #[.int .i64 xs, .int .i64 xp] 80 (0, 0)) := by rw [← hW3, ← hq]; exact heap_alloc_new wr _
          have hB3 : Below wr.heap.size wr W3 := by rw [← hW3]; exact (Below.refl _ _).alloc (Nat.le_refl _) _
          rw [hW3, hq]
          clear hW3
          have hB03 := hBwi.out.trans (hB3.mono hBwi.out.size)
          refine (SG.out xs W3 hB03 hxx.2).mono ?_
          rintro e w4 ⟨v4, rfl, hI4, hB4⟩
          have hB04 := hB03.trans (hB4.mono hB03.size)
          have hb4 := below_blk hB4 hb3
          have hd4 := below_blk hB4 (below_blk hB3 hbi.out)
          have HO4 := fun W hB => HO.out xs W v4 d xp (hI4.below (w' := W) hB) hxx.1
          generalize (T.findS xs).isSome = fnd at *
          generalize T.strAt xs = s at *
          obtain ⟨sid, sep, sl⟩ := s
          dsimp only at HO4 hI4 ⊢
          have hhome : (decide (xp < (sl.length : Int)) && decide (sl[xp.toNat]?.getD 0 = d)) = homeS ⟨sid, sep, sl⟩ d xp := rfl
          rw [hhome] at HO4
          generalize homeS ⟨sid, sep, sl⟩ d xp = hm at *
          obtain ⟨A4, n4, c4, rfl⟩ := hI4.shape
          have hB4' : Below wr.heap.size wr w4 := hB3.trans (hB4.mono hB3.size)
          replace HO4 := Lib.hid HO4
          replace hb4 := Lib.hid hb4
          replace hd4 := Lib.hid hd4
          replace hB04 := Lib.hid hB04
          replace hB4' := Lib.hid hB4'
          clear hb3 hB3 hB03 hB4 hI4 hhome hbi d0 hq0i e0' e1'
          have x0 : w4.cell? ⟨q, 0, none⟩ = some (.int .i64 xs) := by rw [cell_of_blk hb4.out]; rfl
          have x1 : w4.cell? ⟨q, 1, none⟩ = some (.int .i64 xp) := by rw [cell_of_blk hb4.out]; rfl
          have dd : w4.cell? ⟨q0, 0, none⟩ = some (.int .i64 (d : Int)) := by rw [cell_of_blk hd4.out]; rfl
          have hq4 : q < w4.heap.size := blk_lt hb4.out
          have hq04 : q0 < w4.heap.size := blk_lt hd4.out
          go_wp2_with fail
          obtain ⟨W5, hW5⟩ : ∃ W, w4.alloc (.cells #[.int .i64 sid, .int .i64 sep, .slice A4 n4 c4] 36) = W := ⟨_, rfl⟩
          have hB5 : Below w4.heap.size w4 W5 := by rw [← hW5]; exact (Below.refl _ _).alloc (Nat.le_refl _) _
          rw [hW5]
          clear hW5
          refine (HO4.out W5 hB5).mono ?_
          rintro e w6 ⟨rfl, hB6⟩
          have hB46 := hB5.trans (hB6.mono hB5.size)
          have hB06 := hB04.out.trans (hB46.mono hB04.out.size)
          have y0 : w6.cell? ⟨q, 0, none⟩ = some (.int .i64 xs) := (hB46.cell (p := ⟨q, 0, none⟩) hq4).trans x0
          have y1 : w6.cell? ⟨q, 1, none⟩ = some (.int .i64 xp) := (hB46.cell (p := ⟨q, 1, none⟩) hq4).trans x1
          have yd : w6.cell? ⟨q0, 0, none⟩ = some (.int .i64 (d : Int)) := (hB46.cell (p := ⟨q0, 0, none⟩) hq04).trans dd
          have hq6 : q < w6.heap.size := Nat.lt_of_lt_of_le hq4 hB46.size
          have hq06 : q0 < w6.heap.size := Nat.lt_of_lt_of_le hq04 hB46.size
          have KC := Lib.hid (KF'.out w6 q q0 d (xs, xp) hB06 y0 y1 yd hq6 hq06)
          have hBi6 := Lib.hid (hBi.trans ((hB4'.out.trans (hB46.mono hB4'.out.size)).mono hBi.size))
          replace hB06 := Lib.hid hB06
          clear hB5 hB6 hB46 x0 x1 dd hq4 hq04 HO4 hb4 hd4 hB4' hB04
          cases hm
          · generalize kept d (xs, xp) = kb at *
            go_wp2_with fail
            refine KC.out.mono ?_
            rintro e w7 ⟨rfl, hB7⟩
            have z0 : w7.cell? ⟨q, 0, none⟩ = some (.int .i64 xs) := (hB7.cell (p := ⟨q, 0, none⟩) hq6).trans y0
            have z1 : w7.cell? ⟨q, 1, none⟩ = some (.int .i64 xp) := (hB7.cell (p := ⟨q, 1, none⟩) hq6).trans y1
            have zd : w7.cell? ⟨q0, 0, none⟩ = some (.int .i64 (d : Int)) := (hB7.cell (p := ⟨q0, 0, none⟩) hq06).trans yd
            have hB07 := Lib.hid (hB06.out.trans (hB7.mono hB06.out.size))
            have hBi7 := Lib.hid (hBi6.out.trans (hB7.mono hBi6.out.size))
            clear hB7 y0 y1 yd
            cases kb
            · have hres := Lib.hid (hhj.out (by rw [hbad.out]; rfl))
              go_wp2_with fail
              go_quiet (fail)
              go_wp2
              refine bodyPost_ret (results_four rfl _ _ _) rfl ⟨by rw [hres.out]; rfl, below_drewN' hB07.out _⟩
            · have hnb := Lib.hid (hnj1.out (by rw [hbad.out]; rfl))
              go_wp2
              exact ⟨⟨j + 1, by omega, by go_num, hBi7.out, hnb.out⟩, by simp [intOf]; omega⟩
          · have hnb := Lib.hid (hnj1.out (by rw [hbad.out]; rfl))
            go_wp2
            exact ⟨⟨j + 1, by omega, by go_num, hBi6.out, hnb.out⟩, by simp [intOf]; omega⟩
        · obtain rfl : j = n := by omega
          have hno1 : ∀ y ∈ allHeld m (d + 1), badS T kept y.1 y.2 = false := by
            rw [hstep.out]
            intro y hy
            rcases List.mem_append.1 hy with hy | hy
            · exact hno.out y hy
            · obtain ⟨z, hz, rfl⟩ := List.mem_map.1 hy
              obtain ⟨i, hi, rfl⟩ := List.getElem_of_mem hz
              have := hnj.out i (by rw [← hn.out]; exact hi)
              rw [List.getElem?_eq_getElem hi] at this
              exact this
          have hBx := Lib.hid (hB12.out.trans (hBi.mono hB12.out.size))
          replace hno1 := Lib.hid hno1
          go_wp2
          exact ⟨⟨d + 1, by omega, by go_num, hBx.out, hno1.out⟩, by simp [intOf]; omega⟩
    · obtain rfl : d = N := by omega
      have hR := Lib.hid (stray_none m T kept (by rw [hN.out]; exact hno.out))
      replace hB := Lib.hid hB
      go_wp2
      refine bodyPost_ret (results_four rfl _ _ _) rfl ⟨by rw [hR.out]; rfl, hB.out⟩
end Go.Proofs.YtblddkjdglliaaaGreatDoor
namespace Go.Proofs.YtblddkjdglliaaaGreatDoor
open Go.RowKit Go.Maps

def rotL (t : Int) : List Int := [t % 12, (t + 1) % 12, (t + 2) % 12]
def locsI (st : List Int) (t : Int) (i : Nat) : List Int := if 128 ≤ t then targetsL weightL (16 * ((i : Int) + 1)) st 3 else rotL t
def strI (st : List Int) (t : Int) (i : Nat) : StripeM := ⟨16 * ((i : Int) + 1), 1, locsI st t i⟩
def keyI (i : Nat) : ByteArray := byt [UInt8.ofNat (97 + i)]
def objI (st : List Int) (t : Int) (i : Nat) : ObjM := ⟨keyI i, (i : Int) + 1, 16, [strI st t i]⟩
def tabI (st ts : List Int) : Nat → TabM
  | 0 => TabM.pool ⟨2, 1, [], [], 0, 0⟩ 1 st
  | k + 1 => (tabI st ts k).put (objI st (ts[k]?.getD 0) k)
theorem keyI_ne {i j : Nat} (hi : i < 100) (hj : j < 100) (h : keyI i = keyI j) : i = j := by
  have h1 := congrArg (fun b : ByteArray => (b.data.toList.map UInt8.toNat)) h
  simp [keyI, byt] at h1
  omega
section
variable (st ts : List Int)
abbrev oI (i : Nat) : ObjM := objI st (ts[i]?.getD 0) i
abbrev sI (i : Nat) : StripeM := strI st (ts[i]?.getD 0) i
theorem tabI_k (k : Nat) : (tabI st ts k).k = 2 ∧ (tabI st ts k).m = 1 ∧ (tabI st ts k).states = st ∧ (tabI st ts k).epoch = 1 ∧ (tabI st ts k).last = k := by
  induction k with
  | zero => exact ⟨rfl, rfl, rfl, rfl, rfl⟩
  | succ k ih =>
    obtain ⟨a, b, c, d, e⟩ := ih
    refine ⟨a, b, c, d, ?_⟩
    show max (tabI st ts k).last ((k : Int) + 1) = _
    rw [e]; omega
theorem tabI_perm (k : Nat) (hk : k ≤ 50) : (tabI st ts k).objs.Perm ((List.range k).map (oI st ts)) := by
  induction k with
  | zero => exact List.Perm.refl _
  | succ k ih =>
    have ih := ih (by omega)
    show (putK ObjM.key (oI st ts k) (tabI st ts k).objs).Perm _
    have hd : delK ObjM.key (oI st ts k).key (tabI st ts k).objs = (tabI st ts k).objs := by
      unfold delK
      rw [List.filter_eq_self]
      intro y hy
      have := ih.mem_iff.1 hy
      obtain ⟨i, hi, rfl⟩ := List.mem_map.1 this
      have hi := List.mem_range.1 hi
      simp only [Bool.not_eq_true', decide_eq_false_iff_not]
      intro e
      have := keyI_ne (i := i) (j := k) (by omega) (by omega) e
      omega
    rw [putK, hd, List.range_succ, List.map_append]
    refine (insK_perm _ _ _).trans ((List.Perm.cons _ ih).trans ?_)
    exact List.perm_append_comm (l₁ := [_])
theorem tabI_mem (k : Nat) (hk : k ≤ 50) {o : ObjM} (h : o ∈ (tabI st ts k).objs) : ∃ i, i < k ∧ o = oI st ts i := by
  obtain ⟨i, hi, rfl⟩ := List.mem_map.1 ((tabI_perm st ts k hk).mem_iff.1 h)
  exact ⟨i, List.mem_range.1 hi, rfl⟩
theorem tabI_has (k i : Nat) (hk : k ≤ 50) (hi : i < k) : oI st ts i ∈ (tabI st ts k).objs :=
  (tabI_perm st ts k hk).mem_iff.2 (List.mem_map.2 ⟨i, List.mem_range.2 hi, rfl⟩)
theorem tabI_len (k : Nat) (hk : k ≤ 50) : (tabI st ts k).objs.length = k := by
  rw [(tabI_perm st ts k hk).length_eq]; simp
theorem tabI_all (k : Nat) (hk : k ≤ 50) : (tabI st ts k).all.Perm ((List.range k).map (sI st ts)) := by
  unfold TabM.all
  refine ((tabI_perm st ts k hk).flatMap_right _).trans (List.Perm.of_eq ?_)
  rw [List.flatMap_map]
  have : ∀ l : List Nat, (l.flatMap fun i => (oI st ts i).strs) = l.map (sI st ts) := by
    intro l
    induction l with
    | nil => rfl
    | cons a r ih => rw [List.flatMap_cons, ih]; rfl
  exact this _
theorem insL_nd : ∀ (k : Nat), (inK st k).Nodup := by
  intro k
  induction k with
  | zero => simp [inK]
  | succ k ih =>
    unfold inK
    split
    · rw [List.nodup_append]
      refine ⟨ih, by simp, fun a ha b hb e => ?_⟩
      simp at hb
      have := inK_range st k a ha
      omega
    · exact ih
theorem strI_ok (t : Int) (i : Nat) (_h0 : 0 ≤ t) (hl : st.length ≤ 12) (h3 : 3 ≤ (insL st).length) : StrOk 2 1 (strI st t i) := by
  refine ⟨by show (0 : Int) ≤ 1 ∧ (1 : Int) ≤ 1073741824; omega, ?_, ?_, ?_⟩
  · show (locsI st t i).length = 3
    unfold locsI
    split
    · exact targetsL_length weightL _ st 3 h3
    · rfl
  · intro d hd
    change d ∈ locsI st t i at hd
    unfold locsI at hd
    split at hd
    · have := inK_range st st.length d (targetsL_mem weightL _ st 3 d hd)
      omega
    · simp [rotL] at hd
      omega
  · show (locsI st t i).Nodup
    unfold locsI
    split
    · unfold targetsL
      rw [if_pos h3]
      exact (((orderL_perm weightL _ (insL st)).nodup_iff).2 (insL_nd st _)).sublist (List.take_sublist _ _)
    · simp [rotL]
      omega
theorem objI_ok (t : Int) (i : Nat) (hi : i ≤ 50) (h0 : 0 ≤ t) (hl : st.length ≤ 12) (h3 : 3 ≤ (insL st).length) : ObjOk 2 1 (objI st t i) := by
  refine ⟨by show 1 ≤ 1 ∧ 1 ≤ 16; omega, by show 1 ≤ (i : Int) + 1 ∧ (i : Int) + 1 ≤ 33554432; omega, by show (0 : Int) ≤ 16 ∧ (16 : Int) ≤ 96; omega, (by decide : 1 = countN 2 16), ?_⟩
  intro j s hs
  cases j with
  | zero =>
    have : strI st t i = s := by simpa [objI] using hs
    rw [← this]
    exact ⟨by show 16 * ((i : Int) + 1) = 16 * ((i : Int) + 1) + 0; omega, strI_ok st t i h0 hl h3⟩
  | succ j => simp [objI] at hs
theorem tabI_ok (k : Nat) (hk : k ≤ 50) (h0 : ∀ i, i < k → 0 ≤ ts[i]?.getD 0) (hl : st.length ≤ 12) (hs : ∀ x ∈ st, 0 ≤ x ∧ x ≤ 2) (h3 : 3 ≤ (insL st).length) : TabOk (tabI st ts k) := by
  obtain ⟨a, b, c, -, -⟩ := tabI_k st ts k
  refine ⟨by rw [a]; omega, by rw [b]; omega, fun o ho => ?_, fun o ho o' ho' e => ?_, by rw [c]; exact ⟨hl, hs⟩⟩
  · obtain ⟨i, hi, rfl⟩ := tabI_mem st ts k hk ho
    rw [a, b]
    exact objI_ok st _ i (by omega) (h0 i hi) hl h3
  · obtain ⟨i, hi, rfl⟩ := tabI_mem st ts k hk ho
    obtain ⟨j, hj, rfl⟩ := tabI_mem st ts k hk ho'
    have : i = j := by
      have e : ((i : Int) + 1) = (j : Int) + 1 := e
      omega
    rw [this]
end
end Go.Proofs.YtblddkjdglliaaaGreatDoor
namespace Go.Proofs.YtblddkjdglliaaaGreatDoor
open Go.RowKit Go.Maps

theorem Handed.at {W : World} {A : Option Addr} {n : Nat} {xs : List Int} (h : Handed W A n xs) (i : Nat) (hi : i < n) : ∃ a, A = some a ∧ W.cell? (a.add i) = some (.int .u8 (xs[i]?.getD 0)) ∧ 0 ≤ xs[i]?.getD 0 ∧ xs[i]?.getD 0 ≤ 255 := by
  obtain ⟨h1, h2, h3⟩ := h
  rcases h3 with ⟨_, h0⟩ | ⟨a, rfl, hc⟩
  · omega
  · exact ⟨a, rfl, hc i hi, h2 _ (by rw [List.getElem?_eq_getElem (by omega)]; exact List.getElem_mem _)⟩

theorem conv_key (k : Nat) (W : World) (q : Nat) (hc : W.cell? ⟨q, 0, none⟩ = some (.int .u8 (97 + (k : Int)))) : (convert 22 9 (.slice (some ⟨q, 0, none⟩) 1 1)).run Tryz.prog W = .ok (.string (keyI k)) W := by
  have h := run_convert_bytes_arg (P := Tryz.prog) W 22 5 Tryz.underlying22 Tryz.underlying5 q 0 1 1 [97 + (k : Int)] rfl (fun i hi => by
    obtain rfl : i = 0 := by omega
    exact hc) 9 Tryz.underlying9
  rw [h]
  have e : strOfNums [97 + (k : Int)] = keyI k := by
    have : (97 + (k : Int)).toNat = 97 + k := by omega
    unfold strOfNums keyI byt
    simp [this]
  rw [e]
theorem HI.chg_blk {O : Nat → Prop} {w w' : World} {v : Value} {xs : List Int} (h : HI w v xs) (hc : Chg O w w') (ho : ∀ x, blkOf v = some x → ¬ O x) : HI w' v xs := by
  obtain ⟨A, c, rfl, h1, h2, h3⟩ := h
  refine ⟨A, c, rfl, h1, h2, fun hp => ?_⟩
  obtain ⟨b, o, cur, fr, rfl, hb, hcc⟩ := h3 hp
  exact ⟨b, o, cur, fr, rfl, hc.blk hb (ho b rfl), hcc⟩
theorem HS.fresh_chg {O : Nat → Prop} {w w' : World} {B : Nat} {v : Value} {l : List StripeM} (h : HS w B v l) (hc : Chg O w w') (ho : ∀ k, O k → k < B) : HS w' 0 v l := by
  obtain ⟨A, c, h1, h2, h3, h4⟩ := h
  refine ⟨A, c, h1, h2, h3, fun hp => ?_⟩
  obtain ⟨b, cur, fr, e, hB, hb, hcc⟩ := h4 hp
  refine ⟨b, cur, fr, e, Nat.zero_le _, hc.blk hb fun k => by have := ho b k; omega, fun i hi => ?_⟩
  obtain ⟨u, c0, c1, c2, hu, hf⟩ := hcc i hi
  refine ⟨u, c0, c1, c2, hu.chg_blk hc fun x hx k => ?_, hf.mono (Nat.zero_le _)⟩
  have := hf x hx
  have := ho x k
  omega
/-- What a table's entries read stands whatever becomes of the blocks of O. -/
def CL (w : World) (O : Nat → Prop) (stv : Value) (st : List Int) (E : EL) : Prop := ∀ w', Chg O w w' → HI w' stv st ∧ ∀ p ∈ E, HS w' 0 p.2 p.1.strs
theorem CL.step {w w1 : World} {O O1 O2 : Nat → Prop} {stv : Value} {st : List Int} {E : EL} (h : CL w O stv st E) (hc : Chg O1 w w1) (h1 : ∀ k, k < w.heap.size → O1 k → O k) (h2 : ∀ k, k < w.heap.size → O2 k → O k) : CL w1 O2 stv st E :=
  fun w' hw => h w' ((hc.mono h1).trans hw h2)
theorem CL.put {w : World} {O : Nat → Prop} {stv v : Value} {st : List Int} {E : EL} {o : ObjM} {B : Nat} (h : CL w O stv st E) (hv : HS w B v o.strs) (hB : ∀ k, O k → k < B) : CL w O stv st (putK keyP (o, v) E) := fun w' hw => by
  obtain ⟨h1, h2⟩ := h w' hw
  refine ⟨h1, fun p hp => ?_⟩
  rcases (mem_putK _ _ _ _).1 hp with rfl | ⟨hp, _⟩
  · exact hv.fresh_chg hw hB
  · exact h2 p hp
theorem IsTabE.moved {w w' : World} {O O1 : Nat → Prop} {b mb n : Nat} {T : TabM} {stv : Value} {E : EL} (h : IsTabE w b mb T stv n E) (hcl : CL w O stv T.states E) (hc : Chg O1 w w') (h1 : ∀ k, k < w.heap.size → O1 k → O k) (hb : ¬ O1 b) (hmb : ¬ O1 mb) : IsTabE w' b mb T stv n E := by
  obtain ⟨c1, c2⟩ := hcl w' (hc.mono h1)
  exact ⟨hc.blk h.blk hb, own_map_chg h.own hc hmb, h.few, h.objs, c2, c1⟩

set_option maxRecDepth 100000 in
set_option maxHeartbeats 4000000 in
theorem there_any (sv : Value) (st ts : List Int) (A : Option Addr) (n c : Nat) (w : World) (hsv : HI w sv st) (hl : st.length ≤ 12) (hs : ∀ x ∈ st, 0 ≤ x ∧ x ≤ 2) (h3 : 3 ≤ (insL st).length) (hx : Handed w A n ts) (hn : n ≤ 8) :
    Calls Tryz.prog 36 #[sv, .slice A n c] w fun e w' => ∃ b mb iv, e = .returned (.tuple #[tblptr b, iv]) ∧ (∃ IA ic, iv = .slice IA n ic) ∧ IsTab w' b mb (tabI st ts n) ∧ w.heap.size ≤ b ∧ w.heap.size ≤ mb ∧ Below w.heap.size w w' := by
  obtain ⟨SA, sn, sc, rfl⟩ := hsv.shape
  have HSV := Lib.hid hsv
  have HX := Lib.hid hx
  have h0 : ∀ i, i < n → 0 ≤ ts[i]?.getD 0 := fun i hi => by obtain ⟨_, _, _, h, _⟩ := hx.at i hi; exact h
  have NT := Lib.hid fun W => tnew_any W
  have AP := Lib.hid fun b mb W (hT : IsTab W b mb ⟨2, 1, [], [], 0, 0⟩) (hB : Below w.heap.size w W) => tapply_pool b mb _ 1 _ st W hT rfl (by omega) (hsv.below hB) hl hs (Nat.zero_le _)
  have PU := Lib.hid fun b mb k v W stv nn E (hk : k < n) (hT : IsTabE W b mb (tabI st ts k) stv nn E) (hv : HS W 0 v [sI st ts k]) => tapply_putE b mb (tabI st ts k) (oI st ts k) v W stv nn E hT (by rw [(tabI_k st ts k).1]; omega) (by rw [(tabI_k st ts k).2.1]; omega) hv
    (by rw [(tabI_k st ts k).1, (tabI_k st ts k).2.1]; exact objI_ok st _ k (by omega) (h0 k hk) hl h3)
    (fun x hx e => by
      obtain ⟨i, hi, rfl⟩ := tabI_mem st ts k (by omega) hx
      have e : ((i : Int) + 1) = (k : Int) + 1 := e
      omega)
    (by rw [tabI_len st ts k (by omega)]; omega) (by rw [(tabI_k st ts k).2.2.2.2]; omega)
  have RT := Lib.hid fun (k : Nat) W (hk : k < n) (hB : Below w.heap.size w W) => refTargets_any (16 * ((k : Int) + 1)) _ st 3 W (by omega) (hsv.below hB).toC hl (by omega) (by omega)
  have d3 : decide (3 ≤ (insL st).length) = true := decide_eq_true h3
  rw [d3] at RT
  clear hsv hx h0 hl hs h3 d3
  unfold tblptr at *
  go_enter Tryz.func36, Tryz.ntmps36
  go_wp2_with fail
  refine (NT.out _).mono ?_
  rintro e w1 ⟨b, mb, rfl, hT1, hb, hmb, hbl, hB1⟩
  replace hT1 := Lib.hid hT1
  replace hB1 := Lib.hid hB1
  clear NT
  go_wp2_with fail
  refine (AP.out b mb w1 hT1.out hB1.out).mono ?_
  rintro e w2 ⟨rfl, hT2, hC2⟩
  have hB2 : Below w.heap.size w w2 := hB1.out.trans (hC2.to_below hB1.out.size fun k e => by rw [e]; exact hb)
  change IsTab w2 b mb (tabI st ts 0) at hT2
  clear hC2 hT1 hB1 AP hbl
  go_wp2_with fail
  have hbl2 : b < w2.heap.size ∧ mb < w2.heap.size := by
    obtain ⟨stv, nn, E, h⟩ := hT2
    exact ⟨blk_lt h.blk, h.own.lt⟩
  have hT2' : ∃ stv nn E, IsTabE w2 b mb (tabI st ts 0) stv nn E ∧ CL w2 (fun q => (Value.slice none 0 0).ownBlock = some q ∨ q = b ∨ q = mb) stv st E := by
    obtain ⟨stv, nn, E, h⟩ := hT2
    refine ⟨stv, nn, E, h, fun w' hw => ⟨?_, ?_⟩⟩
    · refine h.states.chg hw ?_
      rintro k cur fr (e0 | rfl | rfl) e
      · simp [Value.ownBlock] at e0
      · rw [h.blk] at e; cases e
      · obtain ⟨es, clock, hb, _⟩ := h.own
        rw [hb] at e; cases e
    · have h0 : E.length = 0 := by
        have := congrArg List.length h.objs
        rw [List.length_map] at this
        exact this
      rw [List.eq_nil_of_length_eq_zero h0]
      simp
  go_loopw [7, 8] (fun u i wr => ∃ k : Nat, k ≤ n ∧ i = .int .i64 k ∧ Below w.heap.size w wr ∧ w2.heap.size ≤ wr.heap.size ∧ (∃ stv nn E, IsTabE wr b mb (tabI st ts k) stv nn E ∧ CL wr (fun q => u.ownBlock = some q ∨ q = b ∨ q = mb) stv st E) ∧ ∃ xs : List Int, xs.length = k ∧ wr.ownsRow w2.heap.size 3 1 u k (ints .i64 xs)) (fun _ i _ => n - (intOf i).toNat)
  case atStart => exact ⟨0, by omega, rfl, hB2, Nat.le_refl _, hT2', [], rfl, World.ownsRow_nil _ _ _ _⟩
  case round =>
    obtain ⟨k, hk, rfl, hB, hsz, hT, xs, hxl, ho⟩ := hrel
    by_cases hlt : k < n
    · obtain ⟨a, rfl, hc, t0, t1⟩ := (HX.out.below hB).at k hlt
      have RTk := Lib.hid fun W (hB : Below w.heap.size w W) => RT.out k W hlt hB
      have PUk := Lib.hid fun v W stv nn E => PU.out b mb k v W stv nn E hlt
      have hsI : Hid (sI st ts k = strI st (ts[k]?.getD 0) k) := Lib.hid rfl
      have hloc : Hid (locsI st (ts[k]?.getD 0) k = if 128 ≤ ts[k]?.getD 0 then targetsL weightL (16 * ((k : Int) + 1)) st 3 else rotL (ts[k]?.getD 0)) := Lib.hid rfl
      generalize targetsL weightL (16 * ((k : Int) + 1)) st 3 = tl at *
      obtain ⟨Av, cv, rfl, -, -⟩ := own_shape ho
      replace ho := Lib.hid ho
      replace hT := Lib.hid hT
      have hat := cell_lt hc
      have hk8 : k ≤ 7 := by omega
      obtain ⟨t, ht⟩ : ∃ t, ts[k]?.getD 0 = t := ⟨_, rfl⟩
      rw [ht] at hc t0 t1 hsI hloc
      replace ht := Lib.hid ht
      go_wp2_with fail
      obtain ⟨q, hq⟩ : ∃ q, wr.heap.size = q := ⟨_, rfl⟩
      obtain ⟨W3, hW3⟩ : ∃ W, (wr.alloc (.cells #[.int .i64 (t % 12), .int .i64 ((t + 1) % 12), .int .i64 ((t + 2) % 12)] 3)).alloc (.cells #[.int .i64 (16 * ((k : Int) + 1)), .int .i64 1, .slice (some ⟨wr.heap.size, 0, none⟩) 3 3] 36) = W := ⟨_, rfl⟩
      have hb3 : W3.heap[q]? = some (.cells #[.int .i64 (t % 12), .int .i64 ((t + 1) % 12), .int .i64 ((t + 2) % 12)] 3 (0, 0)) := by rw [← hW3, ← hq]; exact blk_alloc (heap_alloc_new wr _) _
      have hs3 : W3.heap[q + 1]? = some (.cells #[.int .i64 (16 * ((k : Int) + 1)), .int .i64 1, .slice (some ⟨q, 0, none⟩) 3 3] 36 (0, 0)) := by rw [← hW3, ← hq]; exact heap_alloc2_new wr _ _
      have hB3 : Below wr.heap.size wr W3 := by rw [← hW3]; exact ((Below.refl _ wr).alloc (Nat.le_refl _) _).alloc (by simp) _
      rw [hW3, hq]
      clear hW3
      refine (RTk.out W3 (hB.trans (hB3.mono hB.size))).mono ?_
      rintro e w4 ⟨v4, rfl, hI4, hF4, hB4⟩
      have hb4 := below_blk hB4 hb3
      have hs4 := below_blk hB4 hs3
      have hB14 : Below wr.heap.size wr w4 := hB3.trans (hB4.mono hB3.size)
      have hq4 : q + 1 < w4.heap.size := blk_lt hs4
      have hF4' : ∀ x, blkOf v4 = some x → q + 1 < x := fun x hx => Nat.lt_of_lt_of_le (blk_lt hs3) (hF4 x hx)
      obtain ⟨A4, n4, c4, rfl⟩ := hI4.shape
      have m0 : w4.cell? ⟨q + 1, 0, none⟩ = some (.int .i64 (16 * ((k : Int) + 1))) := by rw [cell_of_blk hs4]; rfl
      have m1 : w4.cell? ⟨q + 1, 1, none⟩ = some (.int .i64 1) := by rw [cell_of_blk hs4]; rfl
      have m2 : w4.cell? ⟨q + 1, 2, none⟩ = some (.slice (some ⟨q, 0, none⟩) 3 3) := by rw [cell_of_blk hs4]; rfl
      have f2 := frozen_of_blk hs4 2
      have hc4 : w4.cell? (a.add k) = some (.int .u8 t) := (hB14.cell (p := a.add k) hat).trans hc
      have hat4 : (a.add k).block < w4.heap.size := Nat.lt_of_lt_of_le hat hB14.size
      have hne : (a.add k).block ≠ q + 1 := by omega
      replace hI4 := Lib.hid hI4
      replace hb4 := Lib.hid hb4
      replace hs4 := Lib.hid hs4
      replace hB14 := Lib.hid hB14
      replace hF4' := Lib.hid hF4'
      have hqid : Hid (wr.heap.size = q) := Lib.hid hq
      clear hb3 hs3 hB3 hB4 hF4 RTk hc hat hq
      have ek : IntKind.u8.wrap (97 + (k : Int)) = 97 + (k : Int) := by rw [IntKind.wrap_u8]; omega
      have ek2 : IntKind.u8.wrap (k : Int) = (k : Int) := by rw [IntKind.wrap_u8]; omega
      have hqI : q + 1 ≠ b ∧ q + 1 ≠ mb := by rw [← hqid.out]; omega
      have hlocs : Hid (∃ A5 m5 c5 W5, (if 128 ≤ t then W5 = w4.setCell ⟨q + 1, 2, none⟩ (.slice A4 n4 c4) ∧ Value.slice A5 m5 c5 = .slice A4 n4 c4 else W5 = w4 ∧ Value.slice A5 m5 c5 = .slice (some ⟨q, 0, none⟩) 3 3) ∧
          W5.heap[q + 1]? = some (.cells #[.int .i64 (16 * ((k : Int) + 1)), .int .i64 1, .slice A5 m5 c5] 36 (0, 0)) ∧ HI W5 (.slice A5 m5 c5) (locsI st t k) ∧ Below wr.heap.size wr W5) := Lib.hid (by
        by_cases h128 : 128 ≤ t
        · refine ⟨A4, n4, c4, w4.setCell ⟨q + 1, 2, none⟩ (.slice A4 n4 c4), by rw [if_pos h128]; exact ⟨rfl, rfl⟩, blk_setCell hs4.out 2 _, ?_, hB14.out.setCell (p := ⟨q + 1, 2, none⟩) (by rw [hqid.out]; exact Nat.le_succ q) _⟩
          have : locsI st t k = tl := by rw [hloc.out, if_pos h128]
          rw [this]
          refine hI4.out.chg (O := fun k => k = q + 1) (Chg.setCell (O := fun k => k = q + 1) (a := ⟨q + 1, 2, none⟩) rfl _) ?_
          rintro k cur fr rfl e
          rw [hs4.out] at e; cases e
        · refine ⟨some ⟨q, 0, none⟩, 3, 3, w4, by rw [if_neg h128]; exact ⟨rfl, rfl⟩, hs4.out, ?_, hB14.out⟩
          have : locsI st t k = rotL t := by rw [hloc.out, if_neg h128]
          rw [this]
          refine ⟨some ⟨q, 0, none⟩, 3, rfl, Nat.le_refl 3, by decide, fun _ => ⟨q, 0, #[.int .i64 (t % 12), .int .i64 ((t + 1) % 12), .int .i64 ((t + 2) % 12)], (), rfl, hb4.out, fun i hi => ?_⟩⟩
          have hi : i < 3 := hi
          match i, hi with
          | 0, _ => rfl
          | 1, _ => rfl
          | 2, _ => rfl)
      have hend : Hid (∀ A5 m5 c5 W5, W5.heap[q + 1]? = some (.cells #[.int .i64 (16 * ((k : Int) + 1)), .int .i64 1, .slice A5 m5 c5] 36 (0, 0)) → HI W5 (.slice A5 m5 c5) (locsI st t k) → Below wr.heap.size wr W5 →
          Calls Tryz.prog 44 #[.pointer (some ⟨b, 0, none⟩), .agg #[.int .i64 1, .int .i64 ((k : Int) + 1), .int .i64 16, .string (keyI k), .slice (some ⟨W5.heap.size + 1, 0, none⟩) 1 1, .slice none 0 0, .slice none 0 0]]
            ((W5.alloc (.cells #[.int .u8 (97 + (k : Int))] 5)).alloc (.cells #[.int .i64 (16 * ((k : Int) + 1)), .int .i64 1, .slice A5 m5 c5] 36)) fun e w' => e = .returned (.int .i64 0) ∧ Below w.heap.size w w' ∧ w2.heap.size ≤ w'.heap.size ∧ (∃ stv nn E, IsTabE w' b mb (tabI st ts (k + 1)) stv nn E ∧ CL w' (fun q => (Value.slice Av k cv).ownBlock = some q ∨ q = b ∨ q = mb) stv st E) ∧
              w'.cell? ⟨q + 1, 0, none⟩ = some (.int .i64 (16 * ((k : Int) + 1))) ∧ q + 1 < w'.heap.size ∧ w'.ownsRow w2.heap.size 3 1 (.slice Av k cv) k (ints .i64 xs)) := Lib.hid (by
        intro A5 m5 c5 W5 h1 h2 h3
        obtain ⟨W6, hW6⟩ : ∃ W, (W5.alloc (.cells #[.int .u8 (97 + (k : Int))] 5)).alloc (.cells #[.int .i64 (16 * ((k : Int) + 1)), .int .i64 1, .slice A5 m5 c5] 36) = W := ⟨_, rfl⟩
        have hb6 : W6.heap[W5.heap.size + 1]? = some (.cells #[.int .i64 (16 * ((k : Int) + 1)), .int .i64 1, .slice A5 m5 c5] 36 (0, 0)) := by rw [← hW6]; exact heap_alloc2_new W5 _ _
        have hB56 : Below W5.heap.size W5 W6 := by rw [← hW6]; exact ((Below.refl _ W5).alloc (Nat.le_refl _) _).alloc (by simp) _
        rw [hW6]
        clear hW6
        have hBr6 : Below wr.heap.size wr W6 := h3.trans (hB56.mono h3.size)
        obtain ⟨stv, nn, E, hTE, hCL⟩ := hT.out
        have hTE6 := hTE.below hBr6
        have hS6 : HS W6 0 (.slice (some ⟨W5.heap.size + 1, 0, none⟩) 1 1) [sI st ts k] := by
          rw [hsI.out]
          refine ⟨some ⟨W5.heap.size + 1, 0, none⟩, 1, rfl, Nat.le_refl 1, by decide, fun _ => ⟨_, _, _, rfl, Nat.zero_le _, hb6, fun i hi => ?_⟩⟩
          have hi : i < 1 := hi
          obtain rfl : i = 0 := by omega
          exact ⟨.slice A5 m5 c5, rfl, rfl, rfl, h2.below hB56, fun _ _ => Nat.zero_le _⟩
        have hown6 := own_below ho.out hBr6
        have hrow : ∀ q', (Value.slice Av k cv).ownBlock = some q' → w2.heap.size ≤ q' ∧ q' < wr.heap.size := fun q' e => ho.out.lt q' e
        refine (PUk.out _ W6 stv nn E hTE6 hS6).mono ?_
        rintro e w7 ⟨v2, rfl, hT7, hS7, hC7⟩
        have hB67 : Below w.heap.size w w7 := hB.trans ((hBr6.mono hB.size).trans (hC7.to_below (Nat.le_trans hB.size hBr6.size) (fun k e => e.elim (fun e => by rw [e]; exact hb) (fun e => by rw [e]; exact hmb))))
        refine ⟨rfl, hB67, Nat.le_trans hsz (Nat.le_trans hBr6.size hC7.size), ⟨stv, _, _, hT7, ?_⟩, ?_, ?_, ?_⟩
        · refine CL.put (B := W6.heap.size) (CL.step hCL ((Chg.of_below (O := fun k => k = b ∨ k = mb) hBr6).trans hC7 (fun _ _ e => e)) (fun _ _ e => .inr e) (fun _ _ e => e)) hS7 ?_
          have hz6 := hBr6.size
          rintro q' (e | rfl | rfl)
          · have := (hrow q' e).2; omega
          · omega
          · omega
        · have h6 := below_blk hB56 h1
          have h7 := hC7.blk h6 (by omega)
          rw [cell_of_blk h7]; rfl
        · have h6 := below_blk hB56 h1
          exact blk_lt (hC7.blk h6 (by omega))
        · exact own_chg hown6 hC7 fun q' e hq' => by
            have := (hrow q' e).1
            omega)
      clear hI4 hb4 hs4 hB14 hF4' PUk ho hT hsI hloc
      obtain ⟨A5, m5, c5, W5, hif, hs5, hI5, hB5⟩ := hlocs.out
      have E5 := hend.out A5 m5 c5 W5 hs5 hI5 hB5
      have n0 : W5.cell? ⟨q + 1, 0, none⟩ = some (.int .i64 (16 * ((k : Int) + 1))) := by rw [cell_of_blk hs5]; rfl
      have n1 : W5.cell? ⟨q + 1, 1, none⟩ = some (.int .i64 1) := by rw [cell_of_blk hs5]; rfl
      have n2 : W5.cell? ⟨q + 1, 2, none⟩ = some (.slice A5 m5 c5) := by rw [cell_of_blk hs5]; rfl
      have hq5 : q + 1 < W5.heap.size := blk_lt hs5
      have kc : (convert 22 9 (.slice (some ⟨W5.heap.size, 0, none⟩) 1 1)).run Tryz.prog (W5.alloc (.cells #[.int .u8 (97 + (k : Int))] 5)) = .ok (.string (keyI k)) (W5.alloc (.cells #[.int .u8 (97 + (k : Int))] 5)) := conv_key k _ _ (by
        rw [cell_of_blk (heap_alloc_new W5 _)]; rfl)
      replace E5 := Lib.hid E5
      replace kc := Lib.hid kc
      replace n0 := Lib.hid n0
      replace n1 := Lib.hid n1
      replace n2 := Lib.hid n2
      replace hq5 := Lib.hid hq5
      clear hlocs hend hs5 hI5 hB5
      by_cases h128 : 128 ≤ t
      case pos =>
        have d1 : decide (128 ≤ t) = true := decide_eq_true h128
        rw [if_pos h128] at hif
        obtain ⟨hW5, hA5⟩ := hif
        simp only [Value.slice.injEq] at hA5
        obtain ⟨rfl, rfl, rfl⟩ := hA5
        replace hW5 := Lib.hid hW5
        go_upto_region 13 with (fail)
        rw [← hW5.out]
        clear m0 m1 m2 f2 hc4 hat4 hne
        replace kc := kc.out
        replace n0 := n0.out
        replace n1 := n1.out
        replace n2 := n2.out
        replace hq5 := hq5.out
        go_wp2_with fail
        refine E5.out.mono ?_
        rintro e w7 ⟨rfl, hB7, hz7, hT7, o0, hq7, ho7⟩
        have ho8 := own_zero ho7
        replace hB7 := Lib.hid hB7
        replace hT7 := Lib.hid hT7
        clear kc n0 n1 n2 hq5 E5
        go_wp2_with (at_builtin; refine app_arm Tryz.EI _ rfl (.tmp 75) (.tmp 78) rfl (v := .slice Av k cv) rfl (ho8.alloc _) rfl (Src.alloc _ 1 [_] _ 1 rfl) (by simp [Value.oneCell']) (by omega) (by unfold maxLen; omega) ?_; intro v9 w9 ho9 hg9 _; obtain ⟨A9, k9, rfl, _⟩ := own_shape ho9)
        have hgr := hg9.from_alloc
        have hBl : Below w2.heap.size w7 w9 := hgr.chg.to_below hz7 fun q e => (ho7.lt q e).1
        refine ⟨⟨k + 1, by omega, by go_num, hB7.out.trans (hBl.mono hB2.size), Nat.le_trans hz7 hBl.size, ?_, xs ++ [16 * ((k : Int) + 1)], by simp [hxl], ?_⟩, by simp [intOf]; omega⟩
        · obtain ⟨stv, nn, E, hTE, hCL⟩ := hT7.out
          refine ⟨stv, nn, E, ?_, ?_⟩
          · exact hTE.moved (O := fun q => (Value.slice Av k cv).ownBlock = some q ∨ q = b ∨ q = mb) (by rw [(tabI_k st ts (k + 1)).2.2.1]; exact hCL) hgr.chg (fun _ _ e => .inl e) (fun e => by have := (ho7.lt b e).1; omega) (fun e => by have := (ho7.lt mb e).1; omega)
          · refine hCL.step hgr.chg (fun _ _ e => .inl e) ?_
            rintro q' hq' (e | e)
            · rcases hgr.at_ with f | f
              · exact .inl (f ▸ e)
              · have := f q' e; omega
            · exact .inr e
        · refine own_base (B := 0) ?_ fun q e => ?_
          · simpa [ints] using ho9
          · rcases hgr.at_ with f | f
            · exact (ho7.lt q (f ▸ e)).1
            · exact Nat.le_trans hz7 (f q e)
      case neg =>
        have d1 : decide (128 ≤ t) = false := decide_eq_false h128
        rw [if_neg h128] at hif
        obtain ⟨hW5, hA5⟩ := hif
        simp only [Value.slice.injEq] at hA5
        obtain ⟨rfl, rfl, rfl⟩ := hA5
        replace hW5 := Lib.hid hW5
        go_upto_region 13 with (fail)
        rw [← hW5.out]
        clear m0 m1 m2 f2 hc4 hat4 hne
        replace kc := kc.out
        replace n0 := n0.out
        replace n1 := n1.out
        replace n2 := n2.out
        replace hq5 := hq5.out
        go_wp2_with fail
        refine E5.out.mono ?_
        rintro e w7 ⟨rfl, hB7, hz7, hT7, o0, hq7, ho7⟩
        have ho8 := own_zero ho7
        replace hB7 := Lib.hid hB7
        replace hT7 := Lib.hid hT7
        clear kc n0 n1 n2 hq5 E5
        go_wp2_with (at_builtin; refine app_arm Tryz.EI _ rfl (.tmp 75) (.tmp 78) rfl (v := .slice Av k cv) rfl (ho8.alloc _) rfl (Src.alloc _ 1 [_] _ 1 rfl) (by simp [Value.oneCell']) (by omega) (by unfold maxLen; omega) ?_; intro v9 w9 ho9 hg9 _; obtain ⟨A9, k9, rfl, _⟩ := own_shape ho9)
        have hgr := hg9.from_alloc
        have hBl : Below w2.heap.size w7 w9 := hgr.chg.to_below hz7 fun q e => (ho7.lt q e).1
        refine ⟨⟨k + 1, by omega, by go_num, hB7.out.trans (hBl.mono hB2.size), Nat.le_trans hz7 hBl.size, ?_, xs ++ [16 * ((k : Int) + 1)], by simp [hxl], ?_⟩, by simp [intOf]; omega⟩
        · obtain ⟨stv, nn, E, hTE, hCL⟩ := hT7.out
          refine ⟨stv, nn, E, ?_, ?_⟩
          · exact hTE.moved (O := fun q => (Value.slice Av k cv).ownBlock = some q ∨ q = b ∨ q = mb) (by rw [(tabI_k st ts (k + 1)).2.2.1]; exact hCL) hgr.chg (fun _ _ e => .inl e) (fun e => by have := (ho7.lt b e).1; omega) (fun e => by have := (ho7.lt mb e).1; omega)
          · refine hCL.step hgr.chg (fun _ _ e => .inl e) ?_
            rintro q' hq' (e | e)
            · rcases hgr.at_ with f | f
              · exact .inl (f ▸ e)
              · have := f q' e; omega
            · exact .inr e
        · refine own_base (B := 0) ?_ fun q e => ?_
          · simpa [ints] using ho9
          · rcases hgr.at_ with f | f
            · exact (ho7.lt q (f ▸ e)).1
            · exact Nat.le_trans hz7 (f q e)
    · obtain rfl : k = n := by omega
      obtain ⟨Av, cv, rfl, -, -⟩ := own_shape ho
      obtain ⟨stv, nn, E, hTE, -⟩ := hT
      have hfin : Hid (IsTab wr b mb (tabI st ts k)) := Lib.hid ⟨stv, nn, E, hTE⟩
      replace hB := Lib.hid hB
      clear ho hTE RT PU
      go_wp2
      go_ret2
      exact ⟨b, mb, _, rfl, ⟨_, _, rfl⟩, hfin.out, hb, hmb, hB.out⟩
end Go.Proofs.YtblddkjdglliaaaGreatDoor
namespace Go.Proofs.YtblddkjdglliaaaGreatDoor
open Go.RowKit Go.Maps

abbrev tA17 : TabM := tabI [1, 1, 1] [200] 1
theorem ins3 : insL [1, 1, 1] = [0, 1, 2] := by decide
theorem tA17_ok : TabOk tA17 := tabI_ok _ _ 1 (by omega) (fun i hi => by have : i = 0 := (by omega); subst this; decide) (by decide) (by decide) (by rw [ins3]; decide)
theorem tA17_all : tA17.all.Perm [strI [1, 1, 1] 200 0] := tabI_all _ _ 1 (by omega)
theorem tA17_in : (tA17.findS 16).isSome = true := (tA17_ok.in_all (s := strI [1, 1, 1] 200 0) (tA17_all.mem_iff.2 (List.mem_singleton.2 rfl))).1
theorem tA17_wrong : (tA17.all.filter (wrongS weightL tA17 3)).length = 0 := by
  have h : ∀ s ∈ tA17.all, wrongS weightL tA17 3 s = false := by
    intro s hs
    rw [List.mem_singleton.1 (tA17_all.mem_iff.1 hs)]
    unfold wrongS
    rw [(tabI_k [1, 1, 1] [200] 1).2.2.1]
    have : targetsL weightL (strI [1, 1, 1] 200 0).id [1, 1, 1] 3 = (strI [1, 1, 1] 200 0).locs := by
      show _ = locsI [1, 1, 1] 200 0
      unfold locsI
      rw [if_pos (by decide)]
      rfl
    rw [decide_eq_true this]
    simp
  rw [List.filter_eq_nil_iff.2 (fun s hs => by rw [h s hs]; simp)]
  rfl

set_option maxRecDepth 100000 in
set_option maxHeartbeats 2000000 in
theorem answers17_any (w : World) (hT : Turns w) :
    Calls Tryz.prog 35 #[] w fun e w' => e = .returned (.bool true) ∧ Below w.heap.size w w' := by
  have TH := Lib.hid fun sv A c W h1 h2 => there_any sv [1, 1, 1] [200] A 1 c W h1 (by decide) (by decide) (by rw [ins3]; decide) h2 (by decide)
  have TG := Lib.hid fun b mb W h (hB : Below w.heap.size w W) => ptarget_any weightL weightOk b mb tA17 16 3 W h tA17_ok (by decide) tA17_in (by decide) (by decide) (hT.below hB)
  have TW := Lib.hid fun b mb W h (hB : Below w.heap.size w W) => pwrong_any weightL weightOk b mb tA17 3 W h tA17_ok (by rw [tA17_all.length_eq]; decide) (by rw [tA17_all.length_eq]; decide) (by decide) (by decide) (hT.below hB)
  have hl3 : (targetsL weightL 16 tA17.states 3).length = 3 := by
    rw [(tabI_k [1, 1, 1] [200] 1).2.2.1]
    exact targetsL_length weightL 16 _ 3 (by rw [ins3]; decide)
  have hd3 : decide (3 ≤ (insL tA17.states).length) = true := by
    rw [(tabI_k [1, 1, 1] [200] 1).2.2.1, ins3]; rfl
  rw [hd3] at TG
  rw [tA17_wrong] at TW
  replace hl3 := Lib.hid hl3
  clear hT hd3
  unfold tblptr at *
  go_enter Tryz.func35, Tryz.ntmps35
  go_wp2_with fail
  obtain ⟨W1, hW1⟩ : ∃ W, (w.alloc (.cells #[.int .i64 1, .int .i64 1, .int .i64 1] 3)).alloc (.cells #[.int .u8 200] 5) = W := ⟨_, rfl⟩
  have ha1 : W1.heap[w.heap.size]? = some (.cells #[.int .i64 1, .int .i64 1, .int .i64 1] 3 (0, 0)) := by rw [← hW1]; exact blk_alloc (heap_alloc_new w _) _
  have hb1 : W1.heap[w.heap.size + 1]? = some (.cells #[.int .u8 200] 5 (0, 0)) := by rw [← hW1]; exact heap_alloc2_new w _ _
  have hB1 : Below w.heap.size w W1 := by rw [← hW1]; exact ((Below.refl _ w).alloc (Nat.le_refl _) _).alloc (by simp) _
  rw [hW1]
  clear hW1
  have hH1 : HI W1 (.slice (some ⟨w.heap.size, 0, none⟩) 3 3) [1, 1, 1] := ⟨_, 3, rfl, by decide, by decide, fun _ => ⟨_, 0, _, (), rfl, ha1, fun i hi => by
    have hi : i < 3 := hi
    match i, hi with
    | 0, _ => rfl
    | 1, _ => rfl
    | 2, _ => rfl⟩⟩
  have hH2 : Handed W1 (some ⟨w.heap.size + 1, 0, none⟩) 1 [200] := ⟨rfl, by decide, .inr ⟨_, rfl, fun i hi => by
    obtain rfl : i = 0 := by omega
    rw [add_lit, cell_of_blk hb1]; rfl⟩⟩
  refine (TH.out _ _ 1 W1 hH1 hH2).mono ?_
  rintro e w2 ⟨b, mb, iv, rfl, ⟨IA, ic, rfl⟩, hT2, -, -, hB2⟩
  have hBw2 := Lib.hid (hB1.trans (hB2.mono hB1.size))
  replace hT2 := Lib.hid hT2
  clear ha1 hb1 hH1 hH2 hB1 hB2 TH
  go_wp2_with fail
  refine (TG.out b mb w2 hT2.out hBw2.out).mono ?_
  rintro e w3 ⟨v3, rfl, hI3, hB3⟩
  have hT3 := hT2.out.below hB3
  have hBw3 := Lib.hid (hBw2.out.trans (hB3.mono hBw2.out.size))
  obtain ⟨A3, n3, c3, rfl⟩ := hI3.shape
  obtain rfl : n3 = 3 := by rw [hI3.toC.cell.1]; exact hl3.out
  replace hT3 := Lib.hid hT3
  clear hI3 hB3 hBw2 hT2 TG
  go_wp2_with fail
  refine (TW.out b mb w3 hT3.out hBw3.out).mono ?_
  rintro e w4 ⟨A4, m4, c4, rfl, rfl, hB4⟩
  have hBw4 := Lib.hid (hBw3.out.trans (hB4.mono hBw3.out.size))
  clear hB4 TW
  go_wp2
  go_ret
  exact ⟨rfl, hBw4.out⟩
end Go.Proofs.YtblddkjdglliaaaGreatDoor
