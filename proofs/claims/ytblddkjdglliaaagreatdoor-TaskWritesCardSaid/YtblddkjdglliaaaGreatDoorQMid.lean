/- A region that draws its order: first operations that read quietly, then one operation that all the rest wait for (a call that may do anything), then quiet ones again, in any order. After the library's laws, joined. No program. -/
import Derived.Test.YtblddkjdglliaaaGreatDoorQTail
namespace Go.Proofs.YtblddkjdglliaaaGreatDoor
open Go

section
variable {P : Program} {ops : Array Oper} {md : Region.Mode} {C : World → Prop}
/-- Each behind the n-th waits for it or for one between. -/
def chainB2 (md : Region.Mode) (ops : Array Oper) (n : Nat) : Bool :=
  (List.range ops.size).all fun t => decide (t ≤ n) || (List.range t).any fun t' => decide (n ≤ t') && Region.waitsFor md ops t t'
theorem tail_waits2 {n : Nat} {listed : Array Bool} (hs : Region.sinkB md ops n = true) (hc : chainB2 md ops n = true) (hn : n < ops.size) (inv : HeadInv md ops n listed) :
    ∀ (d i : Nat), n - i = d → i < n → listed.getD i true = false → ∀ t, n ≤ t → t ∉ Region.ready md ops listed := by
  intro d
  induction d using Nat.strongRecOn with
  | _ d ih =>
    intro i hd hi hun t ht hr
    obtain ⟨_, ot, hot, hall⟩ := mem_ready.1 hr
    have htlt : t < ops.size := (Array.getElem?_eq_some_iff.1 hot).1
    by_cases htn : t = n
    · subst htn
      have h1 := List.all_eq_true.1 hs i (List.mem_range.2 hi)
      obtain ⟨j, hj, hj2⟩ := List.any_eq_true.1 h1
      simp only [Bool.and_eq_true, decide_eq_true_eq] at hj2
      obtain ⟨oj, hoj, e, he, hb, hon⟩ := Region.waitsFor_spec hj2.2
      have hjle : j ≤ t := by have := List.mem_range.1 hj; omega
      by_cases hjt : j = t
      · subst hjt
        have : oj = ot := Option.some.inj (hoj.symm.trans hot)
        subst this
        have h2 := hall e he hb
        rw [hon, getD_both hun] at h2
        cases h2
      · cases hl : listed.getD j false with
        | true =>
          have h2 := inv.closed j oj hoj hl e he hb
          rw [hon, getD_both hun] at h2
          cases h2
        | false =>
          have hjs : j < listed.size := by rw [inv.size]; omega
          exact ih (t - j) (by omega) j rfl (by omega) (getD_in hjs hl) t (Nat.le_refl _) hr
    · have h1 := List.all_eq_true.1 hc t (List.mem_range.2 htlt)
      simp only [Bool.or_eq_true, decide_eq_true_eq] at h1
      rcases h1 with h1 | h1
      · omega
      · obtain ⟨t', ht', h2⟩ := List.any_eq_true.1 h1
        simp only [Bool.and_eq_true, decide_eq_true_eq] at h2
        have htt := List.mem_range.1 ht'
        obtain ⟨o', ho', e, he, hb, hon⟩ := Region.waitsFor_spec h2.2
        have : o' = ot := Option.some.inj (ho'.symm.trans hot)
        subst this
        have h3 := hall e he hb
        rw [hon, getD_both (inv.tail t' h2.1 (by omega))] at h3
        cases h3
theorem headQ_first2 {n i : Nat} {oi : Oper} {v : Value} {L : Array Bool → Act → Prop} (hi : ops[i]? = some oi) (hsel : ∀ (j : Nat) (o : Oper) cs b, ops[j]? = some o → o.op ≠ .select cs b)
    (hs : Region.sinkB md ops n = true) (hc : chainB2 md ops n = true) (hn : n < ops.size) (hin : i < n)
    (hdone : ∀ listed a, L listed a → ∀ j ∈ Region.ready md ops listed, n ≤ j) :
    ∀ (f : Nat) (listed : Array Bool) (a : Act), HeadInv md ops n listed →
      (∀ j oj, ops[j]? = some oj → j ≠ i → listed.getD j true = false → (∀ e ∈ oj.after, Region.binds md e = true → e.on ≠ i) → oi.apart ops oj = true) →
      i ∈ Region.ready md ops listed → YieldsIn P ops C oi v a →
      headQ P md ops C n L f (listed.setIfInBounds i true) (a.put oi.dst v) → headQ P md ops C n L (f + 1) listed a := by
  intro f
  induction f with
  | zero =>
    intro listed a inv _ hr hy H
    have hun := (mem_ready.1 hr).1
    refine ⟨fun h => (by rw [h] at hr; cases hr), fun j hj => ?_⟩
    have hjn : j < n := (Nat.lt_or_ge j n).resolve_right fun h => tail_waits2 hs hc hn inv _ i rfl hin hun j h hj
    refine ⟨hjn, ?_⟩
    by_cases hji : j = i
    · subst hji; exact hy.qOp hi H
    · have := hdone _ _ H j (ready_mono hj hji)
      omega
  | succ f ih =>
    intro listed a inv hfree hr hy H
    have hun := (mem_ready.1 hr).1
    refine ⟨fun h => (by rw [h] at hr; cases hr), fun j hj => ?_⟩
    have hjn : j < n := (Nat.lt_or_ge j n).resolve_right fun h => tail_waits2 hs hc hn inv _ i rfl hin hun j h hj
    refine ⟨hjn, ?_⟩
    by_cases hji : j = i
    · subst hji; exact hy.qOp hi H
    · have h1 := (H.2 j (ready_mono hj hji)).2
      obtain ⟨hjun, oj, hoj, hall⟩ := mem_ready.1 hj
      have hnot : ∀ e ∈ oj.after, Region.binds md e = true → e.on ≠ i := fun e he hb heq => by
        have h1 := hall e he hb
        rw [heq, getD_both hun] at h1
        cases h1
      have h2 := qOp_put hoj (hfree j oj hoj hji hjun hnot) (fun cs b => hsel i oi cs b hi) (fun cs b => hsel j oj cs b hoj) hy h1
      have hfree' : ∀ k ok, ops[k]? = some ok → k ≠ i → (listed.setIfInBounds j true).getD k true = false →
          (∀ e ∈ ok.after, Region.binds md e = true → e.on ≠ i) → oi.apart ops ok = true := fun k ok hk hki hun hno => by
        refine hfree k ok hk hki ?_ hno
        by_cases hjk : j = k
        · subst hjk; exact hjun
        · rw [getD_set_ne true hjk] at hun; exact hun
      refine qOp_mono (fun a' h3 => ih (listed.setIfInBounds j true) a' (inv.set hj hjn) hfree' (ready_mono hr (Ne.symm hji)) h3.1 ?_) h2
      rw [Array.setIfInBounds_comm _ _ hji]
      exact h3.2
/-- One operation is ready, number k; behind it the rest may be taken in the text's order. -/
def midEnd (md : Region.Mode) (ops : Array Oper) (k : Nat) (listed : Array Bool) : Bool :=
  decide (Region.ready md ops listed = [k]) && Region.lexFrom md ops (ops.size - (k + 1)) (k + 1) (listed.setIfInBounds k true)
def lexMid (md : Region.Mode) (ops : Array Oper) : Nat → Nat → Array Bool → Bool
  | 0, k, listed => midEnd md ops k listed
  | f + 1, k, listed => (Region.ready md ops listed).contains k && Region.free md ops listed k && lexMid md ops f (k + 1) (listed.setIfInBounds k true)
def lexMidB (md : Region.Mode) (ops : Array Oper) (n : Nat) : Bool :=
  Region.noSelect ops && decide (n < ops.size) && Region.sinkB md ops n && chainB2 md ops n && lexMid md ops n 0 (Array.replicate ops.size false)
theorem midEnd_ready {k : Nat} {listed : Array Bool} (h : midEnd md ops k listed = true) : ∀ j ∈ Region.ready md ops listed, k ≤ j := by
  simp only [midEnd, Bool.and_eq_true, decide_eq_true_eq] at h
  intro j hj
  rw [h.1] at hj
  have : j = k := by simpa using hj
  omega
theorem headQ_lex2 {n : Nat} {Lq : Act → Prop} (hsel : Region.noSelect ops = true) (hs : Region.sinkB md ops n = true) (hc : chainB2 md ops n = true) (hn : n < ops.size) :
    ∀ (l : List Oper) (k : Nat) (listed : Array Bool) (a : Act), (∀ j, j < l.length → l[j]? = ops[k + j]?) → k + l.length = n → HeadInv md ops n listed →
    lexMid md ops l.length k listed = true → wpQuiet P ops C Lq l a →
    headQ P md ops C n (fun listed' a' => midEnd md ops n listed' = true ∧ Lq a') l.length listed a
  | [], k, listed, a, _, hk, _, hB, h => by
    have : k = n := by simpa using hk
    subst this
    exact ⟨by simpa [lexMid] using hB, h⟩
  | o :: l, k, listed, a, hl, hk, inv, hB, h => by
    have h0 : ops[k]? = some o := by simpa using (hl 0 (by simp)).symm
    simp only [List.length_cons, lexMid, Bool.and_eq_true] at hB
    obtain ⟨⟨hr, hf⟩, hB'⟩ := hB
    have hkn : k < n := by simp only [List.length_cons] at hk; omega
    have hr' : k ∈ Region.ready md ops listed := by simpa using hr
    have hst : qOp P ops C k (wpQuiet P ops C Lq l) a := by unfold qOp; simp only [h0]; exact h
    obtain ⟨v, hy, hK⟩ := yieldsIn_of_qOp h0 hst
    exact headQ_first2 h0 (Region.noSelect_spec hsel) hs hc hn hkn (fun listed' a' hL => midEnd_ready hL.1) l.length listed a inv (Region.free_spec h0 hf) hr' hy
      (headQ_lex2 hsel hs hc hn l (k + 1) _ _ (fun j hj => by have := hl (j + 1) (by simp; omega); simpa [Nat.add_assoc, Nat.add_comm 1 j] using this) (by simp only [List.length_cons] at hk; omega) (inv.set hr' hkn) hB' hK)
/-- The one in the middle, then the rest. -/
def midStep (P : Program) (ops : Array Oper) (Q : Exit → Act → World → Prop) (o : Oper) (l : List Oper) (a : Act) (w : World) : Prop :=
  ∀ K : Act → World → Prop, (∀ a' w', wpQuiet P ops (fun W => ∃ n, W = w'.drewN n) (fun a2 => ∀ W, (∃ n, W = w'.drewN n) → Q .normal a2 W) l a' → K a' w') →
    if Region.wanted o (yielded ops a.tmps) = true then o.wp P a w K Q else K (a.put o.dst undef) w
theorem region_quiet_mid {id : Nat} {Q : Exit → Act → World → Prop} {a : Act} {w : World} {l : List Oper} (n : Nat) (hm : P.follows .mixedOrders = true) (hB : lexMidB .any l.toArray n = true)
    {o : Oper} {l2 : List Oper} (hl : l.drop n = o :: l2)
    (h : wpQuiet P l.toArray (fun w' => ∃ n, w' = w.drewN n) (fun a' => ∀ w', (∃ n, w' = w.drewN n) → midStep P l.toArray Q o l2 a' w') (l.take n) a) : (Code.region id l.toArray true).wp P Q a w := by
  simp only [lexMidB, Bool.and_eq_true, decide_eq_true_eq] at hB
  obtain ⟨⟨⟨⟨hsel, hn⟩, hs⟩, hc⟩, hlex⟩ := hB
  have hn' : n < l.length := by simpa using hn
  have htl : (l.take n).length = n := by simp; omega
  have inv0 : HeadInv .any l.toArray n (Array.replicate l.toArray.size false) :=
    ⟨by simp, fun j oj _ hl => (by rw [getD_replicate_false] at hl; cases hl), fun t _ ht => getD_in (by simpa using ht) (getD_replicate_false _ _)⟩
  have H := headQ_lex2 (md := .any) hsel hs hc hn (l.take n) 0 _ a (fun j hj => by
    have hj' : j < n := by rw [htl] at hj; exact hj
    simp [hj']) (by simpa using htl) inv0 (by rw [htl]; exact hlex) h
  have hl2 : l2.length = l.toArray.size - (n + 1) := by
    have := congrArg List.length hl
    simp only [List.length_drop, List.length_cons, List.size_toArray] at this ⊢
    omega
  have h0 : l.toArray[n]? = some o := by
    have := congrArg (fun x => x[0]?) hl
    simpa [List.getElem?_drop] using this
  have h1 : ∀ j, l2[j]? = l.toArray[n + 1 + j]? := by
    intro j
    have := congrArg (fun x => x[j + 1]?) hl
    simp only [List.getElem?_drop, List.getElem?_cons_succ] at this
    rw [← this]
    simp [Nat.add_assoc, Nat.add_comm 1 j]
  refine wp_region_any hm ?_
  have := any_of_headQ (Q' := Q) (g := l2.length + 1) (fun listed a' w' hw' hL => by
    obtain ⟨hL1, hL2⟩ := hL
    simp only [midEnd, Bool.and_eq_true, decide_eq_true_eq] at hL1
    refine ⟨fun h => (by rw [hL1.1] at h; cases h), fun i hi => ?_⟩
    rw [hL1.1] at hi
    have hin : i = n := by simpa using hi
    subst hin
    have hS := hL2 w' hw' (fun a2 w2 => wpAny P .any l.toArray Q l2.length (listed.setIfInBounds i true) a2 w2) (fun a2 w2 hq =>
      wpAny_of_quiet (C := fun W => ∃ n, W = w2.drewN n) (Q := fun a3 => ∀ W, (∃ n, W = w2.drewN n) → Q .normal a3 W) (fun _ W hW h => h W hW) _ _ _ _ ⟨0, rfl⟩
        (wpAnyQ_lex hsel l2 (i + 1) _ a2 h1 (by rw [hl2]; exact hL1.2) hq))
    unfold wpOp
    simp only [h0]
    by_cases hw : Region.wanted o (yielded l.toArray a'.tmps) = true
    · simp only [hw, if_true] at hS ⊢
      exact .inl hS
    · simp only [hw] at hS ⊢
      exact hS) _ _ _ { w with drawn := w.drawn + 1 } ⟨1, rfl⟩ H
  rw [htl, show n + (l2.length + 1) = l.toArray.size by have : n < l.toArray.size := hn; omega] at this
  exact this
end
end Go.Proofs.YtblddkjdglliaaaGreatDoor
