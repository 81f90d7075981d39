/- TaskPlans: where the stripes of any Put will be, or that there are too few drives. The law returns true for every input. Conditions: those of the given card (the table hash.turns as the program's text lays it). -/
import Derived.Test.YtblddkjdglliaaaGreatDoorTPlans
import Derived.Test.YtblddkjdglliaaaGreatDoorClose
namespace Go.Proofs.YtblddkjdglliaaaGreatDoor
open Go.ChangeShapes Go.WideShapes Go.ChangeAt Go.RowKit
/-- Six parameters. -/
theorem trodAll_six' {H : Type} {enc : TypeId × Value → H} {P : Program} {w : World} {base : Nat} {spare : Nat → Bool} {held : Bool} {t0 t1 t2 t3 t4 t5 : TypeId} {args : Array Value} {ds : List (DataW H)} {ps : List MemPlace} (h : DataW.TrodAll enc P w base spare held [t0, t1, t2, t3, t4, t5] args.toList ds ps) :
    ∃ v0 v1 v2 v3 v4 v5 d0 d1 d2 d3 d4 d5 p0 p1 p2 p3 p4 p5, args = #[v0, v1, v2, v3, v4, v5] ∧ ds = [d0, d1, d2, d3, d4, d5] ∧ ps = p0 ++ p1 ++ p2 ++ p3 ++ p4 ++ p5 ∧ DataW.Trod enc P w base spare held t0 v0 d0 p0 ∧ DataW.Trod enc P w base spare held t1 v1 d1 p1 ∧ DataW.Trod enc P w base spare held t2 v2 d2 p2 ∧ DataW.Trod enc P w base spare held t3 v3 d3 p3 ∧ DataW.Trod enc P w base spare held t4 v4 d4 p4 ∧ DataW.Trod enc P w base spare held t5 v5 d5 p5 := by
  obtain ⟨v0, vs0, d0, ds0, p0, q0, hargs, rfl, rfl, hd0, h0⟩ := trodAll_cons h
  obtain ⟨v1, vs1, d1, ds1, p1, q1, rfl, rfl, rfl, hd1, h1⟩ := trodAll_cons h0
  obtain ⟨v2, vs2, d2, ds2, p2, q2, rfl, rfl, rfl, hd2, h2⟩ := trodAll_cons h1
  obtain ⟨v3, vs3, d3, ds3, p3, q3, rfl, rfl, rfl, hd3, h3⟩ := trodAll_cons h2
  obtain ⟨v4, vs4, d4, ds4, p4, q4, rfl, rfl, rfl, hd4, h4⟩ := trodAll_cons h3
  obtain ⟨v5, vs5, d5, ds5, p5, q5, rfl, rfl, rfl, hd5, h5⟩ := trodAll_cons h4
  obtain ⟨rfl, rfl, rfl⟩ := trodAll_nil h5
  exact ⟨v0, v1, v2, v3, v4, v5, d0, d1, d2, d3, d4, d5, p0, p1, p2, p3, p4, p5, by cases args; simp_all, rfl, by simp, hd0, hd1, hd2, hd3, hd4, hd5⟩
theorem hc_of_handed {W : World} {a : Addr} {len cap : Nat} {xs : List Int} (h1 : xs.length = len) (hc : len ≤ cap) (hm : cap ≤ 9223372036854775807) (hcell : ∀ i, i < len → W.cell? (a.add i) = some (.int .i64 (xs[i]?.getD 0))) : HC W (.slice (some a) len cap) xs := by
  subst h1
  refine ⟨some a, cap, rfl, hc, hm, fun hp => ?_⟩
  have h0 := hcell 0 hp
  obtain ⟨b, o, s⟩ := a
  have hs : s = none := by
    cases s with
    | none => rfl
    | some x =>
      unfold World.cell? Addr.add at h0
      simp at h0
      split at h0 <;> simp at h0
  subst hs
  refine ⟨b, o, rfl, fun i hi => ?_⟩
  have := hcell i hi
  rwa [add_lit] at this

set_option maxRecDepth 100000 in
theorem taskPlans_contract (H : Type) (enc : TypeId × Value → H) (W : World) (base : Nat) (args : Array Value) (ds gs : List (DataW H)) (before : List MemPlace)
    (hval0 : ∀ (j : Nat) t v, Tryz.f3.params[j]? = some t → args[j]? = some v → Value.okWide Tryz.prog W .any base t v)
    (hW : DataW.Whole enc Tryz.prog Tryz.f3.params.toList Rows.taskPlansSpec.vars false W args.toList ds gs before)
    (hsz0 : (DataW.weightsEach Tryz.prog (Tryz.f3.params.toList ++ Rows.taskPlansSpec.plain.varTypes Tryz.prog) (ds ++ gs)).all (· ≤ reachBytes) = true)
    (hL : laidMetH Tryz.prog Rows.taskPlansRow.laid W) :
    Calls Tryz.prog 3 args W fun e W' => ∃ v, e = .returned v ∧ Rows.taskPlansSpec.post enc Tryz.prog Tryz.f3 false true false false W args v W' := by
  have hval : ∀ (j : Nat) t v, Tryz.f3.params[j]? = some t → args[j]? = some v → Value.okWide Tryz.prog W .any base t v := hval0
  have hsz := hsz0
  have hW' := hW
  obtain ⟨p, q, hA0, hV, rfl, hfz, hnd⟩ := hW
  have hA : DataW.TrodAll enc Tryz.prog W 0 (fun _ => true) true Tryz.f3.params.toList args.toList ds p := hA0
  rw [Tryz.params3] at hA hval hsz
  obtain ⟨rfl, rfl⟩ := trodVars_none hV
  obtain ⟨v0, v1, v2, v3, v4, v5, d0, d1, d2, d3, d4, d5, p0, p1, p2, p3, p4, p5, rfl, rfl, rfl, h0, h1, h2, h3, h4, h5⟩ := trodAll_six' hA
  clear hA0
  have hfin : ∀ W', Below W.heap.size W W' → Rows.taskPlansSpec.post enc Tryz.prog Tryz.f3 false true false false W #[v0, v1, v2, v3, v4, v5] (.bool true) W' :=
    fun W' hB => law_post hW' rfl rfl rfl (of_decide_eq_true (by kernel_rfl)) hB
  suffices hx : Calls Tryz.prog 3 #[v0, v1, v2, v3, v4, v5] W fun e W' => e = .returned (.bool true) ∧ Below W.heap.size W W' by
    refine hx.mono fun e W' ⟨he, hB⟩ => ⟨_, he, hfin W' hB⟩
  have hT := turns_of hL
  clear hfin hW' hL
  go_open 0 k
  go_open 1 m
  go_open 3 v
  go_open 5 e
  go_open 2 d
  · have hx : Handed W (some d_a) d_len (d.take d_len) := by
      refine ⟨by rw [List.length_take]; omega, fun x hx => bounds_u8 (wf_d x (List.mem_of_mem_take hx)), .inr ⟨d_a, rfl, fun i hi => ?_⟩⟩
      rw [cell_d i (by omega)]
      simp [List.getD, hi]
    go_open 4 s
    · have hs : HC W (.slice (some s_a) s_len s_cap) (s.take s_len) := by
        refine hc_of_handed (by rw [List.length_take]; omega) (by omega) (by unfold maxLen at *; omega) fun i hi => ?_
        rw [cell_s i (by omega)]
        simp [List.getD, hi]
      exact taskPlans_walk _ _ _ _ _ _ _ _ _ _ _ _ W hT bd_k bd_m bd_v bd_e hx hs
    · exact taskPlans_walk _ _ _ _ _ _ _ _ _ _ _ _ W hT bd_k bd_m bd_v bd_e hx (⟨none, 0, rfl, by simp, by decide, by simp⟩ : HC W (.slice none 0 0) [])
  · go_open 4 s
    · have hs : HC W (.slice (some s_a) s_len s_cap) (s.take s_len) := by
        refine hc_of_handed (by rw [List.length_take]; omega) (by omega) (by unfold maxLen at *; omega) fun i hi => ?_
        rw [cell_s i (by omega)]
        simp [List.getD, hi]
      exact taskPlans_walk _ _ _ _ _ _ _ _ _ _ _ _ W hT bd_k bd_m bd_v bd_e (⟨rfl, by simp, .inl ⟨rfl, rfl⟩⟩ : Handed W none 0 []) hs
    · exact taskPlans_walk _ _ _ _ _ _ _ _ _ _ _ _ W hT bd_k bd_m bd_v bd_e (⟨rfl, by simp, .inl ⟨rfl, rfl⟩⟩ : Handed W none 0 []) (⟨none, 0, rfl, by simp, by decide, by simp⟩ : HC W (.slice none 0 0) [])

theorem taskPlans_met (os : Os) : laidMet Tryz.prog Rows.taskPlansRow.laid ((laidWorld os).forCall (fun _ _ => 0) ⟨#[], #[.int .u8 0, .int .u8 0, .slice none 0 0, .int .u16 0, .slice none 0 0, .int .u16 0], []⟩).memory :=
  laidMet_of_run' 8 (by kernel_rfl) (by kernel_rfl)
theorem taskPlans_reads (os : Os) {H : Type} (enc : TypeId × Value → H) : ∃ places, DataW.whole enc Tryz.prog ((laidWorld os).forCall (fun _ _ => 0) ⟨#[], #[.int .u8 0, .int .u8 0, .slice none 0 0, .int .u16 0, .slice none 0 0, .int .u16 0], []⟩).memory Tryz.f3.params.toList Rows.taskPlansSpec.vars false (#[.int .u8 0, .int .u8 0, .slice none 0 0, .int .u16 0, .slice none 0 0, .int .u16 0] : Array Value).toList 8 = some ([.lit (.int .u8 0), .lit (.int .u8 0), .nil, .lit (.int .u16 0), .nil, .lit (.int .u16 0)], [], places) :=
  ⟨[], by kernel_rfl⟩

set_option maxRecDepth 100000 in
theorem taskPlans_lifted (os : Os) (started : os.Started) (H : Type) (enc : TypeId × Value → H) (F : Stop.Interp) :
    ReturnsInHanded {} Tryz.checked os 3 .any ((OpenSpec.ofChange Rows.taskPlansSpec).preRow enc Tryz.prog Tryz.f3 Rows.taskPlansRow.domain false Rows.taskPlansRow.laid) (((OpenSpec.ofChange Rows.taskPlansSpec).at F).post enc Tryz.prog Tryz.f3 false true false false) := by
  obtain ⟨places, hx⟩ := taskPlans_reads os enc
  refine returnsInHanded_of_row (C := Tryz.checked) (s := OpenSpec.ofChange Rows.taskPlansSpec) Tryz.own started (by kernel_rfl) Tryz.func3
    (witness_row_at (enc := enc) (C := Tryz.checked) false (laidWorld os) #[.int .u8 0, .int .u8 0, .slice none 0 0, .int .u16 0, .slice none 0 0, .int .u16 0] rfl (by kernel_rfl) (by kernel_rfl) (by kernel_rfl)
      (OpenSpec.preRow_of_cond 8 hx (by kernel_rfl) (fun k hk => by cases hk) (by kernel_rfl) (taskPlans_met os))) ?_
  intro W base args ds gs before hval hW _ _ hsz hL _ _
  exact taskPlans_contract H enc W base args ds gs before hval hW hsz hL

theorem taskPlans_said : Rows.TaskPlansSaid :=
  OpenClaim.holds_of_cond 3 Tryz.f3 rfl rfl rfl rfl rfl rfl rfl ⟨rfl, rfl, rfl, rfl, rfl⟩ rfl rfl rfl rfl rfl (by kernel_rfl) Tryz.func3 (by kernel_rfl)
    (of_decide_eq_true (by kernel_rfl)) (by unfold Func.isWrapper; first | (rw [if_pos (by decide +kernel)]; kernel_rfl) | (rw [if_neg (by decide +kernel)]; exact ⟨rfl, rfl⟩))
    (fun os started H enc _ F => by rw [OpenClaim.pre_eq_preRow]; exact taskPlans_lifted os started H enc F)
theorem taskPlans_plain (f : FuncId) (fn : Func) (hf : Tryz.pinned.checked.prog.funcNamed "flitting/flittinglaw19.TaskPlans" = some f) (hfn : Tryz.pinned.checked.prog.funcs[f]? = some fn) :
    false = Tryz.pinned.checked.prog.looks [] ∧ ∀ (j : Nat) t, fn.params[j]? = some t → Tryz.pinned.checked.prog.wantsStandIn t = false := by
  obtain rfl : f = 3 := Option.some.inj ((show Tryz.prog.funcNamed "flitting/flittinglaw19.TaskPlans" = some 3 by kernel_rfl).symm.trans hf) |>.symm
  obtain rfl : fn = Tryz.f3 := (Option.some.inj (Tryz.func3.symm.trans hfn)).symm
  refine ⟨by kernel_rfl, fun j t ht => ?_⟩
  have hall : (Tryz.f3.params.toList.all fun t => !Tryz.prog.wantsStandIn t) = true := by kernel_rfl
  have hm : t ∈ Tryz.f3.params.toList := by simpa using Array.mem_of_getElem? ht
  have := List.all_eq_true.1 hall t hm
  exact (by simpa using this : Tryz.prog.wantsStandIn t = false)

/-- The card. -/
theorem taskPlans_card : Rows.TaskPlansCardSaid :=
  Claim7.holds_tied_plain_at .later [] _ _ _ _ taskPlans_said (fun _ h => by cases h) (by kernel_rfl) (fun _ h => by cases h) taskPlans_row_tie rfl ⟨rfl, rfl⟩ (by kernel_rfl) rfl taskPlans_plain (by kernel_rfl)
end Go.Proofs.YtblddkjdglliaaaGreatDoor
