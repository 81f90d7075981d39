/-
  DERIVED. GIVEN WITH THE SEED: THE CARDS: each row of YtblddkjdglliaaaGreatDoorRows.lean that lists a variable, with what it lists TIED to the program's text (the seventh form; the later family's looks); each row that meets fmt, with fmt's text TOLD by the authors' own Lean function (tested against real Go, not proved from fmt's source: count such statements apart). THE CARD IS WHAT COUNTS. Prove the row's statement (the work); the ties are given (YtblddkjdglliaaaGreatDoorTie.lean); close each card by the builder's one call (the guide's Derived/Test/ToyasCard.lean, 'card_holds'). Laid BY PROGRAM, IN A SANDBOX (cutbox-door.mjs). By AI agents, Wed Nov 11 2026. No macro, syntax, notation, axiom, sorry.
-/
import Derived.Test.YtblddkjdglliaaaGreatDoorRows
import GoSem.ClaimSeven
namespace Go.Proofs.YtblddkjdglliaaaGreatDoor
namespace Rows

/-- THE TIED CARD OF 'flittinglaw19.TaskPlans'. -/
def taskPlansCard : Claim7 := { stood := { row := taskPlansRow, standIns := [], harness := (true, "672bd54980a3fc1922c092173d0e52be4c768649f87b1b302aa7a497ed518401"), looks := false }, kinds := [], alts := [], laidByText := true, laidKinds := [.data], laidTests := true, laidLooks := .later }
def TaskPlansCardSaid : Prop := Claim7.holds Tryz.pinned (.plain (OpenSpec.ofChange taskPlansSpec)) taskPlansCard

/-- THE TIED CARD OF 'flittinglaw19.TaskOthers'. -/
def taskOthersCard : Claim7 := { stood := { row := taskOthersRow, standIns := [], harness := (true, "672bd54980a3fc1922c092173d0e52be4c768649f87b1b302aa7a497ed518401"), looks := false }, kinds := [], alts := [], laidByText := true, laidKinds := [.data], laidTests := true, laidLooks := .later }
def TaskOthersCardSaid : Prop := Claim7.holds Tryz.pinned (.plain (OpenSpec.ofChange taskOthersSpec)) taskOthersCard

/-- THE TIED CARD OF 'flittinglaw19.TaskCheck'. -/
def taskCheckCard : Claim7 := { stood := { row := taskCheckRow, standIns := [], harness := (true, "672bd54980a3fc1922c092173d0e52be4c768649f87b1b302aa7a497ed518401"), looks := false }, kinds := [], alts := [], laidByText := true, laidKinds := [.data], laidTests := true, laidLooks := .later }
def TaskCheckCardSaid : Prop := Claim7.holds Tryz.pinned (.plain (OpenSpec.ofChange taskCheckSpec)) taskCheckCard

/-- THE TIED CARD OF 'flittinglaw19.TaskFull'. -/
def taskFullCard : Claim7 := { stood := { row := taskFullRow, standIns := [], harness := (true, "672bd54980a3fc1922c092173d0e52be4c768649f87b1b302aa7a497ed518401"), looks := false }, kinds := [], alts := [], laidByText := true, laidKinds := [.data], laidTests := true, laidLooks := .later }
def TaskFullCardSaid : Prop := Claim7.holds Tryz.pinned (.plain (OpenSpec.ofChange taskFullSpec)) taskFullCard

/-- THE TIED CARD OF 'flittinglaw19.TaskOwn'. -/
def taskOwnCard : Claim7 := { stood := { row := taskOwnRow, standIns := [], harness := (true, "672bd54980a3fc1922c092173d0e52be4c768649f87b1b302aa7a497ed518401"), looks := false }, kinds := [], alts := [], laidByText := true, laidKinds := [.data], laidTests := true, laidLooks := .later }
def TaskOwnCardSaid : Prop := Claim7.holds Tryz.pinned (.plain (OpenSpec.ofChange taskOwnSpec)) taskOwnCard

/-- THE TIED CARD OF 'flittinglaw19.TaskWrites'. -/
def taskWritesCard : Claim7 := { stood := { row := taskWritesRow, standIns := [], harness := (true, "672bd54980a3fc1922c092173d0e52be4c768649f87b1b302aa7a497ed518401"), looks := false }, kinds := [], alts := [], laidByText := true, laidKinds := [.data], laidTests := true, laidLooks := .later }
def TaskWritesCardSaid : Prop := Claim7.holds Tryz.pinned (.plain (OpenSpec.ofChange taskWritesSpec)) taskWritesCard

/-- THE TIED CARD OF 'flittinglaw17.PlanClean'. -/
def planCleanCard : Claim7 := { stood := { row := planCleanRow, standIns := [], harness := (true, "672bd54980a3fc1922c092173d0e52be4c768649f87b1b302aa7a497ed518401"), looks := false }, kinds := [], alts := [], laidByText := true, laidKinds := [.data], laidTests := true, laidLooks := .later }
def PlanCleanCardSaid : Prop := Claim7.holds Tryz.pinned (.plain (OpenSpec.ofChange planCleanSpec)) planCleanCard

/-- THE TIED CARD OF 'flittinglaw17.PlanStray'. -/
def planStrayCard : Claim7 := { stood := { row := planStrayRow, standIns := [], harness := (true, "672bd54980a3fc1922c092173d0e52be4c768649f87b1b302aa7a497ed518401"), looks := false }, kinds := [], alts := [], laidByText := true, laidKinds := [.data], laidTests := true, laidLooks := .later }
def PlanStrayCardSaid : Prop := Claim7.holds Tryz.pinned (.plain (OpenSpec.ofChange planStraySpec)) planStrayCard

/-- THE TIED CARD OF 'flittinglaw23.AuditPlaced'. -/
def auditPlacedCard : Claim7 := { stood := { row := auditPlacedRow, standIns := [], harness := (true, "672bd54980a3fc1922c092173d0e52be4c768649f87b1b302aa7a497ed518401"), looks := false }, kinds := [], alts := [], laidByText := true, laidKinds := [.data], laidTests := true, laidLooks := .later }
def AuditPlacedCardSaid : Prop := Claim7.holds Tryz.pinned (.plain (OpenSpec.ofChange auditPlacedSpec)) auditPlacedCard

/-- THE SECOND FORM's CARD OF 'flittinglaw19.TaskPlans'. -/
def taskPlansUptoCard : Claim7 := { stood := { row := taskPlansUptoRow, standIns := [], harness := (true, "672bd54980a3fc1922c092173d0e52be4c768649f87b1b302aa7a497ed518401"), looks := false }, kinds := [], alts := [], laidByText := true, laidKinds := [.data], laidTests := true, laidLooks := .later }
def TaskPlansUptoCardSaid : Prop := Claim7.holds Tryz.pinned (.plain (OpenSpec.upto taskPlansSpec)) taskPlansUptoCard

/-- THE SECOND FORM's CARD OF 'flittinglaw19.TaskOthers'. -/
def taskOthersUptoCard : Claim7 := { stood := { row := taskOthersUptoRow, standIns := [], harness := (true, "672bd54980a3fc1922c092173d0e52be4c768649f87b1b302aa7a497ed518401"), looks := false }, kinds := [], alts := [], laidByText := true, laidKinds := [.data], laidTests := true, laidLooks := .later }
def TaskOthersUptoCardSaid : Prop := Claim7.holds Tryz.pinned (.plain (OpenSpec.upto taskOthersSpec)) taskOthersUptoCard

/-- THE SECOND FORM's CARD OF 'flittinglaw19.TaskCheck'. -/
def taskCheckUptoCard : Claim7 := { stood := { row := taskCheckUptoRow, standIns := [], harness := (true, "672bd54980a3fc1922c092173d0e52be4c768649f87b1b302aa7a497ed518401"), looks := false }, kinds := [], alts := [], laidByText := true, laidKinds := [.data], laidTests := true, laidLooks := .later }
def TaskCheckUptoCardSaid : Prop := Claim7.holds Tryz.pinned (.plain (OpenSpec.upto taskCheckSpec)) taskCheckUptoCard

/-- THE SECOND FORM's CARD OF 'flittinglaw19.TaskFull'. -/
def taskFullUptoCard : Claim7 := { stood := { row := taskFullUptoRow, standIns := [], harness := (true, "672bd54980a3fc1922c092173d0e52be4c768649f87b1b302aa7a497ed518401"), looks := false }, kinds := [], alts := [], laidByText := true, laidKinds := [.data], laidTests := true, laidLooks := .later }
def TaskFullUptoCardSaid : Prop := Claim7.holds Tryz.pinned (.plain (OpenSpec.upto taskFullSpec)) taskFullUptoCard

/-- THE SECOND FORM's CARD OF 'flittinglaw19.TaskOwn'. -/
def taskOwnUptoCard : Claim7 := { stood := { row := taskOwnUptoRow, standIns := [], harness := (true, "672bd54980a3fc1922c092173d0e52be4c768649f87b1b302aa7a497ed518401"), looks := false }, kinds := [], alts := [], laidByText := true, laidKinds := [.data], laidTests := true, laidLooks := .later }
def TaskOwnUptoCardSaid : Prop := Claim7.holds Tryz.pinned (.plain (OpenSpec.upto taskOwnSpec)) taskOwnUptoCard

/-- THE SECOND FORM's CARD OF 'flittinglaw19.TaskWrites'. -/
def taskWritesUptoCard : Claim7 := { stood := { row := taskWritesUptoRow, standIns := [], harness := (true, "672bd54980a3fc1922c092173d0e52be4c768649f87b1b302aa7a497ed518401"), looks := false }, kinds := [], alts := [], laidByText := true, laidKinds := [.data], laidTests := true, laidLooks := .later }
def TaskWritesUptoCardSaid : Prop := Claim7.holds Tryz.pinned (.plain (OpenSpec.upto taskWritesSpec)) taskWritesUptoCard

/-- THE SECOND FORM's CARD OF 'flittinglaw17.PlanClean'. -/
def planCleanUptoCard : Claim7 := { stood := { row := planCleanUptoRow, standIns := [], harness := (true, "672bd54980a3fc1922c092173d0e52be4c768649f87b1b302aa7a497ed518401"), looks := false }, kinds := [], alts := [], laidByText := true, laidKinds := [.data], laidTests := true, laidLooks := .later }
def PlanCleanUptoCardSaid : Prop := Claim7.holds Tryz.pinned (.plain (OpenSpec.upto planCleanSpec)) planCleanUptoCard

/-- THE SECOND FORM's CARD OF 'flittinglaw17.PlanStray'. -/
def planStrayUptoCard : Claim7 := { stood := { row := planStrayUptoRow, standIns := [], harness := (true, "672bd54980a3fc1922c092173d0e52be4c768649f87b1b302aa7a497ed518401"), looks := false }, kinds := [], alts := [], laidByText := true, laidKinds := [.data], laidTests := true, laidLooks := .later }
def PlanStrayUptoCardSaid : Prop := Claim7.holds Tryz.pinned (.plain (OpenSpec.upto planStraySpec)) planStrayUptoCard

/-- THE SECOND FORM's CARD OF 'flittinglaw23.AuditPlaced'. -/
def auditPlacedUptoCard : Claim7 := { stood := { row := auditPlacedUptoRow, standIns := [], harness := (true, "672bd54980a3fc1922c092173d0e52be4c768649f87b1b302aa7a497ed518401"), looks := false }, kinds := [], alts := [], laidByText := true, laidKinds := [.data], laidTests := true, laidLooks := .later }
def AuditPlacedUptoCardSaid : Prop := Claim7.holds Tryz.pinned (.plain (OpenSpec.upto auditPlacedSpec)) auditPlacedUptoCard
end Rows
end Go.Proofs.YtblddkjdglliaaaGreatDoor
