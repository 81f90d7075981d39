/- Plain law: the drives in their order are the one sorted list. No condition. -/
import Derived.Test.YtblddkjdglliaaaGreatDoorLawP
namespace Go.Proofs.YtblddkjdglliaaaGreatDoor
open Go.RowKit Go.Sort

/-- a is not behind b. -/
def nle (s a b : Int) : Prop := weightL s b < weightL s a ∨ (weightL s b = weightL s a ∧ a ≤ b)
theorem nle_trans {s a b c : Int} (h : nle s a b) (k : nle s b c) : nle s a c := by unfold nle at *; omega
theorem nle_total (s a b : Int) : nle s a b ∨ nle s b a := by unfold nle; omega
theorem nle_anti {s a b : Int} (h : nle s a b) (k : nle s b a) : a = b := by unfold nle at *; omega
theorem orderL_sorted (s : Int) (ds : List Int) : (orderL weightL s ds).Pairwise (nle s) := by
  have H := (insertionSort_holds nearSWO (nears weightL s ds).toArray 0 (nears weightL s ds).toArray.size (Nat.zero_le _) (Nat.le_refl _))
  obtain ⟨H1, H2⟩ := H
  have hsz := H1.1
  have hmem : ∀ x ∈ sortN (nears weightL s ds), x.2 = weightL s x.1 := by
    intro x hx
    have := (sortN_perm (nears weightL s ds)).mem_iff.1 hx
    simp only [nears, List.mem_map] at this
    obtain ⟨d, _, rfl⟩ := this
    rfl
  unfold orderL
  rw [List.pairwise_map, List.pairwise_iff_getElem]
  intro i j hi hj hij
  have e : sortN (nears weightL s ds) = (Sort.insertionSort (ltOf nearC) (nears weightL s ds).toArray 0 (nears weightL s ds).toArray.size).toList := by simp [sortN]
  have m1 := hmem _ (List.getElem_mem hi)
  have m2 := hmem _ (List.getElem_mem hj)
  have hlen : (sortN (nears weightL s ds)).length = (Sort.insertionSort (ltOf nearC) (nears weightL s ds).toArray 0 (nears weightL s ds).toArray.size).size := by rw [e]; simp
  have h2 := H2 i j (Nat.zero_le _) hij (by rw [← hsz, ← hlen]; exact hj)
  rw [getElem!_pos _ _ (by rw [← hlen]; exact hj), getElem!_pos _ _ (by rw [← hlen]; exact hi), ltNear] at h2
  have e1 : (sortN (nears weightL s ds))[i] = (Sort.insertionSort (ltOf nearC) (nears weightL s ds).toArray 0 (nears weightL s ds).toArray.size)[i]'(by rw [← hlen]; exact hi) := by simp [e]
  have e2 : (sortN (nears weightL s ds))[j] = (Sort.insertionSort (ltOf nearC) (nears weightL s ds).toArray 0 (nears weightL s ds).toArray.size)[j]'(by rw [← hlen]; exact hj) := by simp [e]
  rw [← e1, ← e2, m1, m2] at h2
  have h3 := of_decide_eq_false h2
  unfold nle
  omega
theorem orderL_unique (s : Int) (ds l : List Int) (hp : l.Perm ds) (hs : l.Pairwise (nle s)) : l = orderL weightL s ds :=
  List.Perm.eq_of_pairwise (le := nle s) (fun _ _ _ _ h k => nle_anti h k) hs (orderL_sorted s ds) (hp.trans (orderL_perm weightL s ds).symm)

/-- Insertion under way: the first i stand in order but for the one at k, which goes to the front. -/
structure Ins (s : Int) (ds l : List Int) (i k : Nat) : Prop where
  perm : l.Perm ds
  ki : k ≤ i
  il : i < l.length
  srt : ∀ p q, p < q → q ≤ i → p ≠ k → q ≠ k → nle s (l[p]?.getD 0) (l[q]?.getD 0)
  low : ∀ q, k < q → q ≤ i → nle s (l[k]?.getD 0) (l[q]?.getD 0)
/-- The first i stand in order. -/
structure Srt (s : Int) (ds l : List Int) (i : Nat) : Prop where
  perm : l.Perm ds
  srt : ∀ p q, p < q → q < i → nle s (l[p]?.getD 0) (l[q]?.getD 0)
theorem Srt.start (s : Int) (ds : List Int) : Srt s ds ds 0 := ⟨List.Perm.refl _, fun _ _ _ h => by omega⟩
theorem Srt.done {s : Int} {ds l : List Int} (h : Srt s ds l l.length) : l = orderL weightL s ds := by
  refine orderL_unique s ds l h.perm ?_
  rw [List.pairwise_iff_getElem]
  intro i j hi hj hij
  have := h.srt i j hij hj
  rwa [List.getElem?_eq_getElem hi, List.getElem?_eq_getElem hj] at this
theorem Srt.ins {s : Int} {ds l : List Int} {i : Nat} (h : Srt s ds l i) (hi : i < l.length) : Ins s ds l i i :=
  ⟨h.perm, Nat.le_refl _, hi, fun p q hpq hq _ hqk => h.srt p q hpq (by omega), fun q h1 h2 => by omega⟩
theorem Ins.zero {s : Int} {ds l : List Int} {i : Nat} (h : Ins s ds l i 0) : Srt s ds l (i + 1) :=
  ⟨h.perm, fun p q hpq hq => by
    by_cases e : p = 0
    · subst e; exact h.low q hpq (by omega)
    · exact h.srt p q hpq (by omega) e (by omega)⟩
theorem Ins.stop {s : Int} {ds l : List Int} {i k : Nat} (h : Ins s ds l i (k + 1)) (hle : nle s (l[k]?.getD 0) (l[k + 1]?.getD 0)) : Srt s ds l (i + 1) :=
  ⟨h.perm, fun p q hpq hq => by
    by_cases e1 : p = k + 1
    · subst e1; exact h.low q hpq (by omega)
    · by_cases e2 : q = k + 1
      · subst e2
        by_cases e3 : p = k
        · subst e3; exact hle
        · exact nle_trans (h.srt p k (by omega) (by have := h.ki; omega) e1 (by omega)) hle
      · exact h.srt p q hpq (by omega) e1 e2⟩
theorem swap_perm (l : List Int) (k : Nat) (h : k + 1 < l.length) : ((l.set k (l[k + 1]?.getD 0)).set (k + 1) (l[k]?.getD 0)).Perm l := by
  have e : l = l.take k ++ l[k]?.getD 0 :: l[k + 1]?.getD 0 :: l.drop (k + 2) := by
    rw [List.getElem?_eq_getElem h, List.getElem?_eq_getElem (show k < l.length by omega)]
    simp only [Option.getD_some]
    rw [← List.drop_eq_getElem_cons h, ← List.drop_eq_getElem_cons (show k < l.length by omega), List.take_append_drop]
  generalize l[k]?.getD 0 = x at *
  generalize l[k + 1]?.getD 0 = y at *
  have hk : (l.take k).length = k := by simp; omega
  generalize l.take k = a at *
  generalize l.drop (k + 2) = b at *
  subst hk
  subst e
  rw [List.set_append_right _ _ (Nat.le_refl _), List.set_append_right _ _ (by omega)]
  simp only [Nat.sub_self, List.set_cons_zero, Nat.add_sub_cancel_left, List.set_cons_succ]
  exact List.Perm.append_left _ (List.Perm.swap _ _ _)
theorem swap_get (l : List Int) (k : Nat) (h : k + 1 < l.length) (p : Nat) :
    ((l.set k (l[k + 1]?.getD 0)).set (k + 1) (l[k]?.getD 0))[p]?.getD 0 = if p = k + 1 then l[k]?.getD 0 else if p = k then l[k + 1]?.getD 0 else l[p]?.getD 0 := by
  rw [List.getElem?_set, List.getElem?_set]
  by_cases e1 : p = k + 1
  · subst e1; rw [if_pos rfl, if_pos rfl, if_pos (by simpa using h)]; rfl
  · rw [if_neg (Ne.symm e1), if_neg e1]
    by_cases e2 : p = k
    · subst e2; rw [if_pos rfl, if_pos rfl, if_pos (by omega)]; rfl
    · rw [if_neg (Ne.symm e2), if_neg e2]
theorem Ins.swap {s : Int} {ds l : List Int} {i k : Nat} (h : Ins s ds l i (k + 1)) (hnle : ¬ nle s (l[k]?.getD 0) (l[k + 1]?.getD 0)) : Ins s ds ((l.set k (l[k + 1]?.getD 0)).set (k + 1) (l[k]?.getD 0)) i k := by
  have hk := h.ki
  have hil := h.il
  have hge : nle s (l[k + 1]?.getD 0) (l[k]?.getD 0) := (nle_total s _ _).resolve_left hnle
  refine ⟨(swap_perm l k (by omega)).trans h.perm, by omega, by simpa using h.il, fun p q hpq hq h1 h2 => ?_, fun q h1 h2 => ?_⟩
  · rw [swap_get l k (by omega), swap_get l k (by omega)]
    rw [if_neg h1, if_neg h2]
    by_cases e1 : p = k + 1
    · subst e1
      rw [if_pos rfl, if_neg (by omega)]
      exact h.srt k q (by omega) hq (by omega) (by omega)
    · rw [if_neg e1]
      by_cases e2 : q = k + 1
      · subst e2
        rw [if_pos rfl]
        exact h.srt p k (by omega) (by omega) e1 (by omega)
      · rw [if_neg e2]
        exact h.srt p q hpq hq e1 e2
  · rw [swap_get l k (by omega), swap_get l k (by omega), if_neg (by omega), if_pos rfl]
    by_cases e : q = k + 1
    · rw [if_pos e]; exact hge
    · rw [if_neg e, if_neg (by omega)]
      exact h.low q (by omega) h2
end Go.Proofs.YtblddkjdglliaaaGreatDoor
