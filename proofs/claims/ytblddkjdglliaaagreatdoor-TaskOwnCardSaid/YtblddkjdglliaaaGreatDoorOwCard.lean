/- TaskOwn: what is handed in, and told, is memory of its own. The law returns true for every input. Conditions: those of the given card (the table hash.turns as the program's text lays it). -/
import Derived.Test.YtblddkjdglliaaaGreatDoorTOwn
import Derived.Test.YtblddkjdglliaaaGreatDoorClose
namespace Go.Proofs.YtblddkjdglliaaaGreatDoor
open Go.ChangeShapes Go.WideShapes Go.ChangeAt Go.RowKit

set_option maxRecDepth 100000 in
theorem taskOwn_contract (H : Type) (enc : TypeId × Value → H) (W : World) (base : Nat) (args : Array Value) (ds gs : List (DataW H)) (before : List MemPlace)
    (hval0 : ∀ (j : Nat) t v, Tryz.f7.params[j]? = some t → args[j]? = some v → Value.okWide Tryz.prog W .any base t v)
    (hW : DataW.Whole enc Tryz.prog Tryz.f7.params.toList Rows.taskOwnSpec.vars false W args.toList ds gs before)
    (hsz0 : (DataW.weightsEach Tryz.prog (Tryz.f7.params.toList ++ Rows.taskOwnSpec.plain.varTypes Tryz.prog) (ds ++ gs)).all (· ≤ reachBytes) = true)
    (hL : laidMetH Tryz.prog Rows.taskOwnRow.laid W) :
    Calls Tryz.prog 7 args W fun e W' => ∃ v, e = .returned v ∧ Rows.taskOwnSpec.post enc Tryz.prog Tryz.f7 false true false false W args v W' := by
  have hval : ∀ (j : Nat) t v, Tryz.f7.params[j]? = some t → args[j]? = some v → Value.okWide Tryz.prog W .any base t v := hval0
  have hsz := hsz0
  have hW' := hW
  obtain ⟨p, q, hA0, hV, rfl, hfz, hnd⟩ := hW
  have hA : DataW.TrodAll enc Tryz.prog W 0 (fun _ => true) true Tryz.f7.params.toList args.toList ds p := hA0
  rw [Tryz.params7] at hA hval hsz
  obtain ⟨rfl, rfl⟩ := trodVars_none hV
  obtain ⟨v0, v1, d0, d1, p0, p1, rfl, rfl, rfl, h0, h1⟩ := trodAll_two hA
  clear hA0
  have hfin : ∀ W', Below W.heap.size W W' → Rows.taskOwnSpec.post enc Tryz.prog Tryz.f7 false true false false W #[v0, v1] (.bool true) W' :=
    fun W' hB => law_post hW' rfl rfl rfl (of_decide_eq_true (by kernel_rfl)) hB
  suffices hx : Calls Tryz.prog 7 #[v0, v1] W fun e W' => e = .returned (.bool true) ∧ Below W.heap.size W W' by
    refine hx.mono fun e W' ⟨he, hB⟩ => ⟨_, he, hfin W' hB⟩
  have hT := turns_of hL
  clear hfin hW' hL
  go_open 0 d
  · have hx : Handed W (some d_a) d_len (d.take d_len) := by
      refine ⟨by rw [List.length_take]; omega, fun x hx => bounds_u8 (wf_d x (List.mem_of_mem_take hx)), .inr ⟨d_a, rfl, fun i hi => ?_⟩⟩
      rw [cell_d i (by omega)]
      simp [List.getD, hi]
    go_open 1 s
    · exact taskOwn_walk _ _ _ _ _ _ _ W hT hx
    · exact taskOwn_walk _ _ _ _ _ _ _ W hT hx
  · go_open 1 s
    · exact taskOwn_walk _ _ _ _ _ _ _ W hT (⟨rfl, by simp, .inl ⟨rfl, rfl⟩⟩ : Handed W none 0 [])
    · exact taskOwn_walk _ _ _ _ _ _ _ W hT (⟨rfl, by simp, .inl ⟨rfl, rfl⟩⟩ : Handed W none 0 [])

theorem taskOwn_met (os : Os) : laidMet Tryz.prog Rows.taskOwnRow.laid ((laidWorld os).forCall (fun _ _ => 0) ⟨#[], #[.slice none 0 0, .slice none 0 0], []⟩).memory :=
  laidMet_of_run' 8 (by kernel_rfl) (by kernel_rfl)
theorem taskOwn_reads (os : Os) {H : Type} (enc : TypeId × Value → H) : ∃ places, DataW.whole enc Tryz.prog ((laidWorld os).forCall (fun _ _ => 0) ⟨#[], #[.slice none 0 0, .slice none 0 0], []⟩).memory Tryz.f7.params.toList Rows.taskOwnSpec.vars false (#[.slice none 0 0, .slice none 0 0] : Array Value).toList 8 = some ([.nil, .nil], [], places) :=
  ⟨[], by kernel_rfl⟩

set_option maxRecDepth 100000 in
theorem taskOwn_lifted (os : Os) (started : os.Started) (H : Type) (enc : TypeId × Value → H) (F : Stop.Interp) :
    ReturnsInHanded {} Tryz.checked os 7 .any ((OpenSpec.ofChange Rows.taskOwnSpec).preRow enc Tryz.prog Tryz.f7 Rows.taskOwnRow.domain false Rows.taskOwnRow.laid) (((OpenSpec.ofChange Rows.taskOwnSpec).at F).post enc Tryz.prog Tryz.f7 false true false false) := by
  obtain ⟨places, hx⟩ := taskOwn_reads os enc
  refine returnsInHanded_of_row (C := Tryz.checked) (s := OpenSpec.ofChange Rows.taskOwnSpec) Tryz.own started (by kernel_rfl) Tryz.func7
    (witness_row_at (enc := enc) (C := Tryz.checked) false (laidWorld os) #[.slice none 0 0, .slice none 0 0] rfl (by kernel_rfl) (by kernel_rfl) (by kernel_rfl)
      (OpenSpec.preRow_of_cond 8 hx (by kernel_rfl) (fun k hk => by cases hk) (by kernel_rfl) (taskOwn_met os))) ?_
  intro W base args ds gs before hval hW _ _ hsz hL _ _
  exact taskOwn_contract H enc W base args ds gs before hval hW hsz hL

theorem taskOwn_said : Rows.TaskOwnSaid :=
  OpenClaim.holds_of_cond 7 Tryz.f7 rfl rfl rfl rfl rfl rfl rfl ⟨rfl, rfl, rfl, rfl, rfl⟩ rfl rfl rfl rfl rfl (by kernel_rfl) Tryz.func7 (by kernel_rfl)
    (of_decide_eq_true (by kernel_rfl)) (by unfold Func.isWrapper; first | (rw [if_pos (by decide +kernel)]; kernel_rfl) | (rw [if_neg (by decide +kernel)]; exact ⟨rfl, rfl⟩))
    (fun os started H enc _ F => by rw [OpenClaim.pre_eq_preRow]; exact taskOwn_lifted os started H enc F)
theorem taskOwn_plain (f : FuncId) (fn : Func) (hf : Tryz.pinned.checked.prog.funcNamed "flitting/flittinglaw19.TaskOwn" = some f) (hfn : Tryz.pinned.checked.prog.funcs[f]? = some fn) :
    false = Tryz.pinned.checked.prog.looks [] ∧ ∀ (j : Nat) t, fn.params[j]? = some t → Tryz.pinned.checked.prog.wantsStandIn t = false := by
  obtain rfl : f = 7 := Option.some.inj ((show Tryz.prog.funcNamed "flitting/flittinglaw19.TaskOwn" = some 7 by kernel_rfl).symm.trans hf) |>.symm
  obtain rfl : fn = Tryz.f7 := (Option.some.inj (Tryz.func7.symm.trans hfn)).symm
  refine ⟨by kernel_rfl, fun j t ht => ?_⟩
  have hall : (Tryz.f7.params.toList.all fun t => !Tryz.prog.wantsStandIn t) = true := by kernel_rfl
  have hm : t ∈ Tryz.f7.params.toList := by simpa using Array.mem_of_getElem? ht
  have := List.all_eq_true.1 hall t hm
  exact (by simpa using this : Tryz.prog.wantsStandIn t = false)

/-- The card. -/
theorem taskOwn_card : Rows.TaskOwnCardSaid :=
  Claim7.holds_tied_plain_at .later [] _ _ _ _ taskOwn_said (fun _ h => by cases h) (by kernel_rfl) (fun _ h => by cases h) taskOwn_row_tie rfl ⟨rfl, rfl⟩ (by kernel_rfl) rfl taskOwn_plain (by kernel_rfl)
end Go.Proofs.YtblddkjdglliaaaGreatDoor
