/- What closes each law of this seat: the listed table gives Turns; what a law's call leaves reads as the form asks. No condition. -/
import Derived.Test.YtblddkjdglliaaaGreatDoorAns
import Derived.Test.YtblddkjdglliaaaGreatDoorCards
import Derived.Test.YtblddkjdglliaaaGreatDoorTie
import Derived.ProofKit
import Derived.OpenShut
import Derived.Deep.DeepHandedRow
import Derived.Lib.LaidTab
import Derived.Carry
import Derived.SizedLaws
namespace Go.Proofs.YtblddkjdglliaaaGreatDoor
open Go.ChangeShapes Go.WideShapes Go.ChangeAt Go.RowKit

theorem Tryz.own : ownKnob Tryz.prog.godebug = none := by kernel_rfl
theorem Tryz.laidOut : laidOutB Tryz.prog = true := by kernel_rfl
theorem Tryz.gTurns : Tryz.prog.globalNamed "flitting/hash.turns" = some 0 := by kernel_rfl
theorem Tryz.gTurnsType : (Tryz.prog.globals[0]?).map (·.type) = some 205 := by kernel_rfl
theorem Tryz.cellsTurns : Tryz.prog.cellsOf 205 = 64 := by kernel_rfl
theorem Tryz.cellsU32 : Tryz.prog.cellsOf 146 = 1 := by kernel_rfl
theorem turns_of {W : World} (h : laidMetH Tryz.prog [("flitting/hash.turns", Rows.laid_flitting_hash_turns)] W) : Turns W := by
  have T : Lib.TabIs Tryz.prog W "flitting/hash.turns" .u32 turnsL :=
    Lib.tabIs_of_head (rest := []) Tryz.gTurns Tryz.gTurnsType Tryz.underlying205 Tryz.underlying146 Tryz.cellsU32 Tryz.cellsTurns h
  have hc : ∀ i, i < 64 → W.cell? ⟨0, i, none⟩ = some (.int .u32 (turnsL[i]?.getD 0)) := by
    intro i hi
    have := T.cell Tryz.gTurns i hi
    rw [this]; simp
  exact ⟨cell_lt (hc 0 (by decide)), hc⟩
/-- A world for the witness: the settled one, the table (block 0) holding what its initialiser lays. -/
noncomputable def laidWorld (os : Os) : World :=
  { World.holding Tryz.prog os ⟨#[], #[], []⟩ with heap := (World.holding Tryz.prog os ⟨#[], #[], []⟩).heap.modify 0 fun
      | .cells _ t frozen => .cells (turnsL.map fun z => Value.int .u32 z).toArray t frozen
      | o => o }

section
variable {H : Type} {enc : TypeId × Value → H}
theorem below_all {W W' : World} (hb : Below W.heap.size W W') : ∀ {ts : List TypeId} {vs : List Value} {ds : List (DataW H)} {ps : List MemPlace},
    (∀ t ∈ ts, Tryz.prog.readableRec t = true ∧ t < Tryz.prog.types.size) → DataW.TrodAll enc Tryz.prog W 0 (fun _ => true) true ts vs ds ps → (∀ x ∈ ps, x.block < W.heap.size) →
    DataW.TrodAll enc Tryz.prog W' 0 (fun b => decide (b < W.heap.size)) true ts vs ds ps
  | [], _, _, _, _, h, _ => by
    obtain ⟨rfl, rfl, rfl⟩ := trodAll_nil h
    exact trodAll_mk0
  | t :: ts, _, _, _, hk, h, hlt => by
    obtain ⟨v, vs', d, ds', p, q, rfl, rfl, rfl, h1, h2⟩ := trodAll_cons h
    have k0 := hk t (by simp)
    exact trodAll_cons_mk (Below.trod Tryz.laidOut k0.1 k0.2 h1 hb fun x hx => hlt x (List.mem_append_left _ hx)) (below_all hb (fun t' ht => hk t' (by simp [ht])) h2 fun x hx => hlt x (List.mem_append_right _ hx))
/-- A law's post: true; new memory alone. -/
theorem law_post {f : Func} {s : ChangeSpec} {W W' : World} {args : Array Value} {ds gs : List (DataW H)} {before : List MemPlace}
    (hW : DataW.Whole enc Tryz.prog f.params.toList s.vars false W args.toList ds gs before) (hv : s.vars = []) (hr : f.resultTypes = #[4])
    (hfn : s.fn H (ds ++ gs) = { results := [.lit (.bool true)], args := ds }) (hk : ∀ t ∈ f.params.toList, Tryz.prog.readableRec t = true ∧ t < Tryz.prog.types.size) (hB : Below W.heap.size W W') :
    s.post enc Tryz.prog f false true false false W args (.bool true) W' := by
  have hW' := hW
  obtain ⟨p, q, hA, hV, rfl, hz, hn⟩ := hW
  rw [hv] at hV
  obtain ⟨rfl, rfl⟩ := trodVars_none hV
  have hlt : ∀ x ∈ p, x.block < W.heap.size := fun x hx => hW'.lt x (List.mem_append_left _ hx)
  refine ⟨ds, [], p ++ [], [], p, [], hW', ?_, ?_, ?_, ?_, fun h => by cases h⟩
  · rw [hfn, hr]
    exact trodAll_cons_mk (shut_bool Tryz.underlying4 true) trodAll_mk0
  · rw [hfn]
    exact below_all hB hk hA hlt
  · rw [hfn, hv]
    rfl
  · exact World.keptBut_mono (fun _ h => h.elim) (World.keptBut_none_iff.2 ⟨hB.os, hB.output, hB.block⟩)
end
end Go.Proofs.YtblddkjdglliaaaGreatDoor
