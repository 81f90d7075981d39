/- For TaskWrites: the plan's laws, one step of Next, the pool's making. No condition. -/
import Derived.Test.YtblddkjdglliaaaGreatDoorTOwn
import Derived.Test.YtblddkjdglliaaaGreatDoorWrP
import Derived.Test.YtblddkjdglliaaaGreatDoorREnc
namespace Go.Proofs.YtblddkjdglliaaaGreatDoor
open Go.RowKit

theorem inK_ones (D c : Nat) (h : c ≤ D) : inK (List.replicate D 1) c = (List.range c).map fun (i : Nat) => (i : Int) := by
  induction c with
  | zero => rfl
  | succ c ih =>
    rw [inK, if_pos (by rw [List.getElem?_replicate, if_pos (by omega)]; rfl), ih (by omega), List.range_succ, List.map_append]; rfl
theorem insL_ones (D : Nat) : insL (List.replicate D 1) = (List.range D).map fun (i : Nat) => (i : Int) := by
  unfold insL; rw [List.length_replicate, inK_ones D D (Nat.le_refl _)]
def tW (xs : List Int) (k m V : Nat) : TaskM := (newT 0 1 kKey xs).planned_ (List.replicate (k + m + 1) 1) k m V 1
theorem laid_ones (xs : List Int) (k m V : Nat) (hk1 : 1 ≤ k) (hk4 : k ≤ 4) (hm3 : m ≤ 3) (hV : V ≤ 100000) (hx : xs.length ≤ 96) : Laid (tW xs k m V) k m (k + m + 1) := by
  have hil : (insL (List.replicate (k + m + 1) 1)).length = k + m + 1 := by rw [insL_ones]; simp
  have hc := countN_le k xs.length hk1 hx
  have hN : (tW xs k m V).strs.length = countN k xs.length := planL_length _ _ _ _ _ _
  have hat : ∀ i, i < (tW xs k m V).strs.length → ((tW xs k m V).strs[i]?.getD .zero) = planS (List.replicate (k + m + 1) 1) k m V 1 i := by
    intro i hi
    rw [hN] at hi
    show (planL _ k m V 1 (countN k xs.length))[i]?.getD .zero = _
    simp [planL, hi]
  have htl : ∀ s, targetsL weightL s (List.replicate (k + m + 1) 1) (k + m) = (orderL weightL s ((List.range (k + m + 1)).map fun (i : Nat) => (i : Int))).take (k + m) := by
    intro s
    rw [targetsL, hil, if_pos (by omega), insL_ones]
  have hnd0 : ((List.range (k + m + 1)).map fun (i : Nat) => (i : Int)).Nodup := by
    rw [List.nodup_iff_pairwise_ne, List.pairwise_map]
    exact (List.nodup_range (n := k + m + 1)).imp fun {a b} h e => h (by omega)
  have hlen : ∀ s, (targetsL weightL s (List.replicate (k + m + 1) 1) (k + m)).length = k + m := fun s => targetsL_length _ _ _ _ (by rw [hil]; omega)
  have hnd : ∀ s, (targetsL weightL s (List.replicate (k + m + 1) 1) (k + m)).Nodup := by
    intro s
    rw [htl]
    exact ((orderL_perm weightL s _).nodup_iff.2 hnd0).sublist (List.take_sublist _ _)
  refine ⟨ready_planned _ _ k m V 1 rfl hx hk1 hV (.inr (by rw [hil]; omega)), hk1, by rw [hN]; exact hc, by omega, ?_, ?_, ?_⟩
  · intro q r hq hr
    unfold TaskM.locAt
    rw [hat q hq]
    show ∃ j : Nat, (targetsL weightL (16 * (V : Int) + q) (List.replicate (k + m + 1) 1) (k + m))[r]?.getD 0 = (j : Int) ∧ j < k + m + 1
    have hr' : r < (targetsL weightL (16 * (V : Int) + q) (List.replicate (k + m + 1) 1) (k + m)).length := by rw [hlen]; exact hr
    rw [List.getElem?_eq_getElem hr']
    have := targetsL_mem _ _ _ _ _ (List.getElem_mem hr')
    rw [insL_ones] at this
    simp only [List.mem_map, List.mem_range] at this
    obtain ⟨j, hj, e⟩ := this
    exact ⟨j, e.symm, hj⟩
  · intro q r r' hq hr hr' e
    unfold TaskM.locAt at e
    rw [hat q hq] at e
    change (targetsL weightL (16 * (V : Int) + q) (List.replicate (k + m + 1) 1) (k + m))[r]?.getD 0 = (targetsL weightL (16 * (V : Int) + q) (List.replicate (k + m + 1) 1) (k + m))[r']?.getD 0 at e
    have h1 : r < (targetsL weightL (16 * (V : Int) + q) (List.replicate (k + m + 1) 1) (k + m)).length := by rw [hlen]; exact hr
    have h2 : r' < (targetsL weightL (16 * (V : Int) + q) (List.replicate (k + m + 1) 1) (k + m)).length := by rw [hlen]; exact hr'
    rw [List.getElem?_eq_getElem h1, List.getElem?_eq_getElem h2] at e
    exact (List.getElem_inj (hnd _)).1 e
  · intro q q' hq hq' e
    rw [hat q hq, hat q' hq'] at e
    simp only [planS] at e
    omega
theorem SF.nextS {w0 w w' : World} {b p : Nat} {t : TaskM} {L : Lay} {m : PoolM} (h : SF w0 w b p t L m) (hc : Chg (fun j => j = b ∨ PFp p L j) w w') : ∀ B v l, HS w B v l → HS w' B v l := by
  intro B v l hv
  refine hv.chg hc ?_
  rintro b' cur ty fr hty (rfl | hk) e
  · obtain ⟨_, _, h1, _⟩ := h.task
    rw [h1] at e; cases e; rcases hty with h | h <;> cases h
  · obtain ⟨cur', e', g1, h2⟩ := PFp_ty h.pool hk
    rw [g1] at e; cases e
    rcases hty with rfl | rfl <;> rcases h2 with h2 | h2 | h2 | h2 | h2 <;> cases h2
/-- The pool's beginning. -/
def pW (c : Nat) : PoolM := ⟨List.replicate c (newD 20), -1, false⟩
theorem add_W (c : Nat) (h : c < 12) : ((pW c).add 20).2.2 = pW (c + 1) := by
  unfold PoolM.add pW
  rw [if_neg (by simp; omega)]
  simp [List.replicate_succ']
theorem wi_zero (T : TaskM) (k m D : Nat) : WI T k m D (pW D) 0 :=
  ⟨⟨rfl, rfl⟩, by simp [pW], fun j hj => ⟨newD (20 : Nat), by simp [pW, hj], newD_ent 20 (by decide), by decide⟩⟩
/-- So far into the Put. -/
def WAt (T : TaskM) (k m D : Nat) (mp : PoolM) (a : Nat) : Prop :=
  (a < T.strs.length * (k + m) ∧ WI T k m D mp a) ∨ ∃ b, a = T.strs.length * (k + m) + b ∧ b ≤ T.strs.length * (k + m) ∧ WF T k m D mp b
def tWa (T : TaskM) (a : Nat) : TaskM := { T with at_ := (a : Int) }
theorem wat_zero (T : TaskM) (k m D : Nat) : WAt T k m D (pW D) 0 := by
  rcases Nat.eq_zero_or_pos (T.strs.length * (k + m)) with h | h
  · refine .inr ⟨0, by omega, by omega, ?_⟩
    have := wi_zero T k m D
    rw [← h] at this
    exact this.turn
  · exact .inl ⟨h, wi_zero T k m D⟩
theorem nextW {w0 w : World} {b p : Nat} {L : Lay} {mp : PoolM} {T : TaskM} {k m D a : Nat} (hk4 : k ≤ 4) (hm3 : m ≤ 3) (LD : Laid T k m D) (h : SF w0 w b p (tWa T a) L mp) (hW : WAt T k m D mp a) (ha : a < 2 * (T.strs.length * (k + m))) :
    Calls Tryz.prog 20 #[tptr b, pptr p, .int .i64 k, .int .i64 m] w fun e w' => ∃ L' mp', e = .returned (.tuple #[.bool false, .int .i64 0]) ∧ SF w0 w' b p (tWa T (a + 1)) L' mp' ∧ WAt T k m D mp' (a + 1) ∧ ∀ B v l, HS w B v l → HS w' B v l := by
  have hR : Ready (tWa T a) k m := ⟨LD.ready.op, LD.ready.planned, LD.ready.count, LD.ready.few, LD.ready.locs, LD.ready.ids⟩
  have hN : T.strs.length * (k + m) ≤ 12 * 7 := Nat.mul_le_mul LD.few LD.most
  rcases hW with ⟨h1, h2⟩ | ⟨q, rfl, h2, h3⟩
  · obtain ⟨mp', s1, s2⟩ := LD.step h2 h1
    have NX := next_store b p (tWa T a) L mp k m a w h.task h.pool (h2.room (by omega)) LD.pos hk4 hm3 hR rfl h1
    rw [show (tWa T a).step k m mp a = (0, mp') from s1] at NX
    refine NX.mono fun e w' ⟨L', e1, e2, e3, e4, e5⟩ => ?_
    rw [if_pos rfl] at e3
    refine ⟨L', mp', e1, (h.next e2 e3 e4 e5).1, ?_, h.nextS e4⟩
    rcases Nat.lt_or_ge (a + 1) (T.strs.length * (k + m)) with hlt | hge
    · exact .inl ⟨hlt, s2⟩
    · have e : a + 1 = T.strs.length * (k + m) := by omega
      rw [e] at s2
      exact .inr ⟨0, by omega, by omega, s2.turn⟩
  · have hq : q < T.strs.length * (k + m) := by omega
    obtain ⟨mp', s1, s2⟩ := LD.flush h3 hq
    have NX := next_flush b p (tWa T (T.strs.length * (k + m) + q)) L mp k m q w h.task h.pool LD.pos hk4 hm3 hR rfl hq
    rw [show (tWa T (T.strs.length * (k + m) + q)).step k m mp ((tWa T (T.strs.length * (k + m) + q)).strs.length * (k + m) + q) = (0, mp') from s1] at NX
    refine NX.mono fun e w' ⟨L', e1, e2, e3, e4, e5⟩ => ?_
    rw [if_pos rfl] at e3
    exact ⟨L', mp', e1, (h.next e2 e3 e4 e5).1, .inr ⟨q + 1, by omega, by omega, s2⟩, h.nextS e4⟩
theorem full_split (k : Nat) (xs : List Int) (hk1 : 1 ≤ k) (hk4 : k ≤ 4) (i : Nat) (hi : i < countN k xs.length) :
    i * (k * 8) + k * 8 ≤ xs.length + 32 ∧ ((xs ++ List.replicate 32 0).drop (i * (k * 8))).take (k * 8) = (splitL k xs)[i]?.getD [] := by
  have hb := countN_big k xs.length hk1
  have h1 : (i + 1) * (k * 8) ≤ countN k xs.length * (k * 8) := Nat.mul_le_mul_right _ hi
  rw [Nat.succ_mul] at h1
  refine ⟨by omega, ?_⟩
  have e : (splitL k xs)[i]?.getD [] = ((padL k xs).drop (i * (k * 8))).take (k * 8) := by simp [splitL, chop, hi]
  rw [e]
  unfold padL
  apply List.ext_getElem?
  intro q
  rw [List.getElem?_take, List.getElem?_take]
  by_cases hq : q < k * 8
  · rw [if_pos hq, if_pos hq, List.getElem?_drop, List.getElem?_drop]
    by_cases hx : i * (k * 8) + q < xs.length
    · rw [List.getElem?_append_left hx, List.getElem?_append_left hx]
    · rw [List.getElem?_append_right (by omega), List.getElem?_append_right (by omega), List.getElem?_replicate, List.getElem?_replicate, if_pos (by omega), if_pos (by omega)]
  · rw [if_neg hq, if_neg hq]
/-- The pool so far, and the row of states. -/
structure PI (w0 w : World) (p : Nat) (L : Lay) (v : Value) (q : Nat) : Prop where
  below : Below w0.heap.size w0 w
  pool : IsPool w p L (pW q)
  newP : ∀ k, PFp p L k → w0.heap.size ≤ k
  row : w.ownsRow 0 3 1 v q (ints .i64 (List.replicate q 1))
  newV : ∀ k, v.ownBlock = some k → w0.heap.size ≤ k
theorem PI.add {w0 w w' : World} {p : Nat} {L L' : Lay} {v : Value} {q : Nat} (h : PI w0 w p L v q) (hP : IsPool w' p L' (pW (q + 1))) (hs : PStep p w w' L L') :
    Below w0.heap.size w0 w' ∧ (∀ k, PFp p L' k → w0.heap.size ≤ k) ∧ w'.ownsRow 0 3 1 v q (ints .i64 (List.replicate q 1)) := by
  refine ⟨h.below.trans (hs.chg.to_below h.below.size h.newP), fun k hk => ?_, own_chg h.row hs.chg fun k hk hp => ?_⟩
  · rcases hs.fp k hk with h1 | h1
    · exact h.newP k h1
    · exact Nat.le_trans h.below.size h1
  · obtain ⟨cur, e⟩ := own_ty h.row k hk
    obtain ⟨cur', e', g1, h2⟩ := PFp_ty h.pool hp
    rw [e] at g1; cases g1
    rcases h2 with h2 | h2 | h2 | h2 | h2 <;> cases h2
theorem PI.app {w0 w w2 : World} {p : Nat} {L : Lay} {v v2 : Value} {q r : Nat} (hB : Below w0.heap.size w0 w) (hP : IsPool w p L (pW r)) (hn : ∀ k, PFp p L k → w0.heap.size ≤ k) (ho : w.ownsRow 0 3 1 v q (ints .i64 (List.replicate q 1))) (hv : ∀ k, v.ownBlock = some k → w0.heap.size ≤ k)
    (ho2 : w2.ownsRow 0 3 1 v2 r (ints .i64 (List.replicate r 1))) (hg : Grow w w2 v v2) : PI w0 w2 p L v2 r := by
  refine ⟨hB.trans (hg.chg.to_below hB.size hv), hP.keep hg.chg ?_ ?_, hn, ho2, fun k hk => ?_⟩
  · intro k hk e
    obtain ⟨cur, e1⟩ := own_ty ho k e
    obtain ⟨cur', e', g1, h2⟩ := PFp_ty hP hk
    rw [e1] at g1; cases g1
    rcases h2 with h2 | h2 | h2 | h2 | h2 <;> cases h2
  · intro k cur fr hk e
    obtain ⟨cur', e1⟩ := own_ty ho k hk
    rw [e1] at e; cases e
  · rcases hg.at_ with f | f
    · exact hv k (f ▸ hk)
    · exact Nat.le_trans hB.size (f k hk)
end Go.Proofs.YtblddkjdglliaaaGreatDoor
