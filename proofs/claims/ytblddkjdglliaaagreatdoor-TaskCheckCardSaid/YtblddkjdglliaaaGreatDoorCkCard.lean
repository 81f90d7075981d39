/- TaskCheck: what any client may ask for: the law returns true for every input. Conditions: those of the given card (the table hash.turns as the program's text lays it). -/
import Derived.Test.YtblddkjdglliaaaGreatDoorTCheck
import Derived.Test.YtblddkjdglliaaaGreatDoorClose
namespace Go.Proofs.YtblddkjdglliaaaGreatDoor
open Go.ChangeShapes Go.WideShapes Go.ChangeAt Go.RowKit

/-- A handed slice of bytes can be cloned, whatever its length. -/
theorem clone_handed (A : Option Addr) (len cap : Nat) (xs : List Int) (W : World) (h0 : A = none ∨ ∃ a, A = some a ∧ len ≤ xs.length ∧ ∀ i, i < len → W.cell? (a.add i) = some (.int .u8 (xs[i]?.getD 0))) (hl : len ≤ 140737488355328) :
    Calls Tryz.prog 46 #[.slice A len cap] W fun e w' => ∃ A' n' c', e = .returned (.slice A' n' c') ∧ True ∧ Below W.heap.size W w' := by
  rcases h0 with rfl | ⟨a, rfl, hle, hc⟩
  · refine (Tryz.bytes_Clone_nil _ _ W).mono ?_
    rintro e w' ⟨rfl, rfl⟩
    exact ⟨_, _, _, rfl, trivial, Below.refl _ _⟩
  · refine (Tryz.bytes_Clone_at a len cap (xs.take len) W (by rw [List.length_take]; omega) hl fun i hi => ?_).mono ?_
    · rw [hc i hi]
      simp [List.getD, hi]
    · rintro e w' ⟨v', rfl, ho, _, hB⟩
      obtain ⟨A', c', rfl, _⟩ := own_shape ho
      exact ⟨_, _, _, rfl, trivial, hB⟩

set_option maxRecDepth 100000 in
theorem taskCheck_contract (H : Type) (enc : TypeId × Value → H) (W : World) (base : Nat) (args : Array Value) (ds gs : List (DataW H)) (before : List MemPlace)
    (hval0 : ∀ (j : Nat) t v, Tryz.f5.params[j]? = some t → args[j]? = some v → Value.okWide Tryz.prog W .any base t v)
    (hW : DataW.Whole enc Tryz.prog Tryz.f5.params.toList Rows.taskCheckSpec.vars false W args.toList ds gs before)
    (hsz0 : (DataW.weightsEach Tryz.prog (Tryz.f5.params.toList ++ Rows.taskCheckSpec.plain.varTypes Tryz.prog) (ds ++ gs)).all (· ≤ reachBytes) = true)
    (hL : laidMetH Tryz.prog Rows.taskCheckRow.laid W) :
    Calls Tryz.prog 5 args W fun e W' => ∃ v, e = .returned v ∧ Rows.taskCheckSpec.post enc Tryz.prog Tryz.f5 false true false false W args v W' := by
  have hval : ∀ (j : Nat) t v, Tryz.f5.params[j]? = some t → args[j]? = some v → Value.okWide Tryz.prog W .any base t v := hval0
  have hsz := hsz0
  have hW' := hW
  obtain ⟨p, q, hA0, hV, rfl, hfz, hnd⟩ := hW
  have hA : DataW.TrodAll enc Tryz.prog W 0 (fun _ => true) true Tryz.f5.params.toList args.toList ds p := hA0
  rw [Tryz.params5] at hA hval hsz
  obtain ⟨rfl, rfl⟩ := trodVars_none hV
  obtain ⟨v0, v1, v2, v3, d0, d1, d2, d3, p0, p1, p2, p3, rfl, rfl, rfl, h0, h1, h2, h3⟩ := trodAll_four hA
  clear hA0
  have hfin : ∀ W', Below W.heap.size W W' → Rows.taskCheckSpec.post enc Tryz.prog Tryz.f5 false true false false W #[v0, v1, v2, v3] (.bool true) W' :=
    fun W' hB => law_post hW' rfl rfl rfl (of_decide_eq_true (by kernel_rfl)) hB
  suffices hx : Calls Tryz.prog 5 #[v0, v1, v2, v3] W fun e W' => e = .returned (.bool true) ∧ Below W.heap.size W W' by
    refine hx.mono fun e W' ⟨he, hB⟩ => ⟨_, he, hfin W' hB⟩
  have hT := turns_of hL
  clear hfin hW' hL
  go_open 0 a
  go_open 1 b
  go_open 2 k
  go_open 3 d
  · have hs := sized_slice hsz (j := 3) (t := 22) (e := 5) rfl rfl Tryz.underlying22
    have hb1 : Tryz.prog.bytesOf 5 = 1 := by kernel_rfl
    have hll : ∀ zs : List Int, (lits (H := H) .u8 zs).length = zs.length := fun zs => by simp [lits]
    rw [hb1, hll, hll] at hs
    have hr := reachBytes_lt
    simp only [List.length_take, List.length_drop] at hs
    refine taskCheck_walk _ _ _ _ _ _ W hT (clone_handed _ _ _ d W (.inr ⟨d_a, rfl, by omega, fun i hi => ?_⟩) (by omega))
    rw [cell_d i (by omega)]; simp [List.getD]
  · exact taskCheck_walk _ _ _ _ _ _ W hT (clone_handed _ _ _ [] W (.inl rfl) (by decide))

theorem taskCheck_met (os : Os) : laidMet Tryz.prog Rows.taskCheckRow.laid ((laidWorld os).forCall (fun _ _ => 0) ⟨#[], #[.int .i64 0, .int .i64 0, .string ⟨#[]⟩, .slice none 0 0], []⟩).memory :=
  laidMet_of_run' 8 (by kernel_rfl) (by kernel_rfl)
theorem taskCheck_reads (os : Os) {H : Type} (enc : TypeId × Value → H) : ∃ places, DataW.whole enc Tryz.prog ((laidWorld os).forCall (fun _ _ => 0) ⟨#[], #[.int .i64 0, .int .i64 0, .string ⟨#[]⟩, .slice none 0 0], []⟩).memory Tryz.f5.params.toList Rows.taskCheckSpec.vars false #[Value.int .i64 0, .int .i64 0, .string ⟨#[]⟩, .slice none 0 0].toList 8 = some ([.lit (.int .i64 0), .lit (.int .i64 0), .lit (.string []), .nil], [], places) :=
  ⟨[], by kernel_rfl⟩

set_option maxRecDepth 100000 in
theorem taskCheck_lifted (os : Os) (started : os.Started) (H : Type) (enc : TypeId × Value → H) (F : Stop.Interp) :
    ReturnsInHanded {} Tryz.checked os 5 .any ((OpenSpec.ofChange Rows.taskCheckSpec).preRow enc Tryz.prog Tryz.f5 Rows.taskCheckRow.domain false Rows.taskCheckRow.laid) (((OpenSpec.ofChange Rows.taskCheckSpec).at F).post enc Tryz.prog Tryz.f5 false true false false) := by
  obtain ⟨places, hx⟩ := taskCheck_reads os enc
  refine returnsInHanded_of_row (C := Tryz.checked) (s := OpenSpec.ofChange Rows.taskCheckSpec) Tryz.own started (by kernel_rfl) Tryz.func5
    (witness_row_at (enc := enc) (C := Tryz.checked) false (laidWorld os) #[.int .i64 0, .int .i64 0, .string ⟨#[]⟩, .slice none 0 0] rfl (by kernel_rfl) (by kernel_rfl) (by kernel_rfl)
      (OpenSpec.preRow_of_cond 8 hx (by kernel_rfl) (fun k hk => by cases hk) (by kernel_rfl) (taskCheck_met os))) ?_
  intro W base args ds gs before hval hW _ _ hsz hL _ _
  exact taskCheck_contract H enc W base args ds gs before hval hW hsz hL

theorem taskCheck_said : Rows.TaskCheckSaid :=
  OpenClaim.holds_of_cond 5 Tryz.f5 rfl rfl rfl rfl rfl rfl rfl ⟨rfl, rfl, rfl, rfl, rfl⟩ rfl rfl rfl rfl rfl (by kernel_rfl) Tryz.func5 (by kernel_rfl)
    (of_decide_eq_true (by kernel_rfl)) (by unfold Func.isWrapper; first | (rw [if_pos (by decide +kernel)]; kernel_rfl) | (rw [if_neg (by decide +kernel)]; exact ⟨rfl, rfl⟩))
    (fun os started H enc _ F => by rw [OpenClaim.pre_eq_preRow]; exact taskCheck_lifted os started H enc F)
theorem taskCheck_plain (f : FuncId) (fn : Func) (hf : Tryz.pinned.checked.prog.funcNamed "flitting/flittinglaw19.TaskCheck" = some f) (hfn : Tryz.pinned.checked.prog.funcs[f]? = some fn) :
    false = Tryz.pinned.checked.prog.looks [] ∧ ∀ (j : Nat) t, fn.params[j]? = some t → Tryz.pinned.checked.prog.wantsStandIn t = false := by
  obtain rfl : f = 5 := Option.some.inj ((show Tryz.prog.funcNamed "flitting/flittinglaw19.TaskCheck" = some 5 by kernel_rfl).symm.trans hf) |>.symm
  obtain rfl : fn = Tryz.f5 := (Option.some.inj (Tryz.func5.symm.trans hfn)).symm
  refine ⟨by kernel_rfl, fun j t ht => ?_⟩
  have hall : (Tryz.f5.params.toList.all fun t => !Tryz.prog.wantsStandIn t) = true := by kernel_rfl
  have hm : t ∈ Tryz.f5.params.toList := by simpa using Array.mem_of_getElem? ht
  have := List.all_eq_true.1 hall t hm
  exact (by simpa using this : Tryz.prog.wantsStandIn t = false)

/-- The card. -/
theorem taskCheck_card : Rows.TaskCheckCardSaid :=
  Claim7.holds_tied_plain_at .later [] _ _ _ _ taskCheck_said (fun _ h => by cases h) (by kernel_rfl) (fun _ h => by cases h) taskCheck_row_tie rfl ⟨rfl, rfl⟩ (by kernel_rfl) rfl taskCheck_plain (by kernel_rfl)
end Go.Proofs.YtblddkjdglliaaaGreatDoor
