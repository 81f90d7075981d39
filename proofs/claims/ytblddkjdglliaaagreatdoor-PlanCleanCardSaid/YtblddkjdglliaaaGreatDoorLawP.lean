/- Plain laws: a frame opened is what was framed; the order of drives is a rearrangement. No condition. -/
import Derived.Test.YtblddkjdglliaaaGreatDoorNext
namespace Go.Proofs.YtblddkjdglliaaaGreatDoor
open Go.RowKit Go.Sort

theorem open_frame (s p : Int) (bs : List Int) (hs : 0 ≤ s) (hs2 : s ≤ 4294967295) (hl : bs.length ≤ 50) :
    openOk (frameL s p bs) = true ∧ openS (frameL s p bs) = s ∧ openP (frameL s p bs) = p ∧ openB (frameL s p bs) = bs := by
  have ht : bs.take 50 = bs := List.take_of_length_le hl
  have hlen : (frameL s p bs).length = 10 + bs.length := by rw [frameL_length, ht]
  obtain ⟨a0, a1, a2, a3, ha⟩ : ∃ a0 a1 a2 a3, putL s 4 = [a0, a1, a2, a3] := ⟨_, _, _, _, rfl⟩
  have hg : getN (putL s 4) = s := getN_putL_lt s 4 hs (by omega)
  have h4 : (frameL s p bs).take 4 = putL s 4 := by unfold frameL headL; rw [ha]; simp
  have h5 : (frameL s p bs)[4]?.getD 0 = p := by unfold frameL headL; rw [ha]; simp
  have h6 : ((frameL s p bs).drop 6).take ((frameL s p bs).length - 10) = bs := by
    rw [hlen]
    unfold frameL headL
    rw [ha, ht]
    simp
  have hok : openOk (frameL s p bs) = true := by
    unfold openOk
    rw [h4, h5, h6, hg]
    simp [hlen]
  refine ⟨hok, ?_, ?_, ?_⟩
  · unfold openS; rw [if_pos hok, h4, hg]
  · unfold openP; rw [if_pos hok, h5]
  · unfold openB; rw [if_pos hok, h6]
theorem openOk_nil : openOk [] = false := by decide

theorem sortN_perm (l : List (Int × Int)) : (sortN l).Perm l := by
  have H := (insertionSort_holds nearSWO l.toArray 0 l.toArray.size (Nat.zero_le _) (Nat.le_refl _)).1
  have hsz := H.1
  have h := H.2.2
  simp at h hsz
  rw [List.take_of_length_le (by rw [Array.length_toList, hsz]; exact Nat.le_refl _)] at h
  unfold sortN
  exact h
theorem orderL_perm (wt : Int → Int → Int) (s : Int) (ds : List Int) : (orderL wt s ds).Perm ds := by
  have h := (sortN_perm (nears wt s ds)).map (·.1)
  have e : (nears wt s ds).map (·.1) = ds := by simp [nears, List.map_map, Function.comp_def]
  rw [e] at h
  exact h
theorem orderL_length (wt : Int → Int → Int) (s : Int) (ds : List Int) : (orderL wt s ds).length = ds.length := (orderL_perm wt s ds).length_eq
theorem orderL_one (wt : Int → Int → Int) (s d : Int) : orderL wt s [d] = [d] := List.perm_singleton.1 (orderL_perm wt s [d])
theorem targetsL_length (wt : Int → Int → Int) (s : Int) (st : List Int) (n : Nat) (h : n ≤ (insL st).length) : (targetsL wt s st n).length = n := by
  rw [targetsL, if_pos h, List.length_take, orderL_length]; omega
theorem targetsL_mem (wt : Int → Int → Int) (s : Int) (st : List Int) (n : Nat) : ∀ d ∈ targetsL wt s st n, d ∈ insL st := by
  intro d hd
  unfold targetsL at hd
  split at hd
  · exact (orderL_perm wt s _).mem_iff.1 (List.mem_of_mem_take hd)
  · simp at hd
/-- The planned task is ready for its steps. -/
theorem ready_planned (t : TaskM) (st : List Int) (k m ver : Nat) (ep : Int) (ho : t.op = 1) (hd : t.data.length ≤ 96) (hk : 1 ≤ k) (hv : ver ≤ 100000) (hin : countN k t.data.length = 0 ∨ k + m ≤ (insL st).length) : Ready (t.planned_ st k m ver ep) k m := by
  have hc := countN_le k t.data.length hk hd
  have hat : ∀ i, i < countN k t.data.length → ((t.planned_ st k m ver ep).strs[i]?.getD .zero) = planS st k m ver ep i := by
    intro i hi
    simp [TaskM.planned_, planL, hi]
  refine ⟨ho, rfl, planL_length _ _ _ _ _ _, hd, fun i hi => ?_, fun i hi => ?_⟩
  · have hi' : i < countN k t.data.length := by simpa [TaskM.planned_, planL_length] using hi
    rw [hat i hi']
    exact targetsL_length _ _ _ _ (by rcases hin with h | h; omega; exact h)
  · have hi' : i < countN k t.data.length := by simpa [TaskM.planned_, planL_length] using hi
    rw [hat i hi']
    simp only [planS]
    omega
/-! ### Fields of an object by value -/
theorem run_obj1 (k s : Value) (i z : Int) (W : World) : Sem.run Tryz.prog (Instr.field 32 (.agg #[k, .int .i64 i, .int .i64 z, s]) 1) W = .ok (.int .i64 i) W := by
  have a : (isAgg 3).run Tryz.prog W = .ok false W := Tryz.isAgg3 W
  simp [Instr.field, run_underlying Tryz.underlying32, go_sem, a, asAgg, part]
theorem run_obj3 (k : Value) (i z : Int) (A : Option Addr) (n c : Nat) (W : World) : Sem.run Tryz.prog (Instr.field 32 (.agg #[k, .int .i64 i, .int .i64 z, .slice A n c]) 3) W = .ok (.slice A n c) W := by
  have a : (isAgg 30).run Tryz.prog W = .ok false W := Tryz.isAgg30 W
  simp [Instr.field, run_underlying Tryz.underlying32, go_sem, a, asAgg, part]
end Go.Proofs.YtblddkjdglliaaaGreatDoor
