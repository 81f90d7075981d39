/-
  NARROWER THAN 'FOR EVERY INPUT', by the rows' own cells (each row's printed sentence says how): TaskPlans: laid · TaskOthers: laid · TaskCheck: laid · TaskFull: laid · TaskOwn: laid · TaskWrites: laid · PlanClean: laid · PlanStray: laid · AuditPlaced: laid.
  DERIVED. THE GIVEN ROWS OF THIS SEAT. 9 by the template 'for every input the law returns true; each argument reads behind the call as it read before'; 0 by the template 'total and deterministic' (their statements: YtblddkjdglliaaaGreatDoorTotals.lean).
  GIVEN WITH THE SEED: the statements are not yours to turn. If you find one false, say at which input.
  Laid BY PROGRAM, IN A SANDBOX (cutbox-rows.mjs): the forced cells as the released guide's own fill.sh prints them over the translation 140a24c5840c0732… (all of the seat's roots in one cut). By AI agents, Wed Nov 11 2026. No macro, syntax, notation, axiom, sorry.
-/
import Derived.Test.YtblddkjdglliaaaGreatDoorChecked
import GoSem.Claim
import GoSem.ClaimJoined
import GoSem.ClaimMapViews
import Derived.JoinedTies
import Derived.KernelRfl
namespace Go.Proofs.YtblddkjdglliaaaGreatDoor
/- THE CELL 'sum', in the pinned program and in every row, IS THE sha256 OF THE DUMP (.gsa) THAT YtblddkjdglliaaaGreatDoorProg.lean LOADS. Nothing in Lean hashes anything: it is a label: what it is worth is what the hold of that sum in a sandbox is worth. -/
noncomputable def Tryz.pinned : Pinned := { name := "ytblddkjdglliaaagreatdoor", sum := "140a24c5840c073218a85c523e4a3b43836682121382cbb958d78e788c8c1189", checked := Tryz.checked }
namespace Rows
def none {H : Type} : Left H := { results := [], args := [] }

/- WHAT THE LISTED PACKAGE-LEVEL VARIABLES READ AS WHEN THE CALL BEGINS. Each datum BY PROGRAM (the guide's laid-datum.mjs) off the statement by which the dump's own 'gosem.cut.vars' lays the variable. In a bare row this is a premise. The card (YtblddkjdglliaaaGreatDoorCards.lean) ties it to the program's text. -/
def laid_flitting_hash_turns {H : Type} : DataW H := .agg [.lit (.int .u32 1116352408), .lit (.int .u32 1899447441), .lit (.int .u32 3049323471), .lit (.int .u32 3921009573), .lit (.int .u32 961987163), .lit (.int .u32 1508970993), .lit (.int .u32 2453635748), .lit (.int .u32 2870763221), .lit (.int .u32 3624381080), .lit (.int .u32 310598401), .lit (.int .u32 607225278), .lit (.int .u32 1426881987), .lit (.int .u32 1925078388), .lit (.int .u32 2162078206), .lit (.int .u32 2614888103), .lit (.int .u32 3248222580), .lit (.int .u32 3835390401), .lit (.int .u32 4022224774), .lit (.int .u32 264347078), .lit (.int .u32 604807628), .lit (.int .u32 770255983), .lit (.int .u32 1249150122), .lit (.int .u32 1555081692), .lit (.int .u32 1996064986), .lit (.int .u32 2554220882), .lit (.int .u32 2821834349), .lit (.int .u32 2952996808), .lit (.int .u32 3210313671), .lit (.int .u32 3336571891), .lit (.int .u32 3584528711), .lit (.int .u32 113926993), .lit (.int .u32 338241895), .lit (.int .u32 666307205), .lit (.int .u32 773529912), .lit (.int .u32 1294757372), .lit (.int .u32 1396182291), .lit (.int .u32 1695183700), .lit (.int .u32 1986661051), .lit (.int .u32 2177026350), .lit (.int .u32 2456956037), .lit (.int .u32 2730485921), .lit (.int .u32 2820302411), .lit (.int .u32 3259730800), .lit (.int .u32 3345764771), .lit (.int .u32 3516065817), .lit (.int .u32 3600352804), .lit (.int .u32 4094571909), .lit (.int .u32 275423344), .lit (.int .u32 430227734), .lit (.int .u32 506948616), .lit (.int .u32 659060556), .lit (.int .u32 883997877), .lit (.int .u32 958139571), .lit (.int .u32 1322822218), .lit (.int .u32 1537002063), .lit (.int .u32 1747873779), .lit (.int .u32 1955562222), .lit (.int .u32 2024104815), .lit (.int .u32 2227730452), .lit (.int .u32 2361852424), .lit (.int .u32 2428436474), .lit (.int .u32 2756734187), .lit (.int .u32 3204031479), .lit (.int .u32 3329325298)]

/-- 'flittinglaw19.TaskPlans': WHATEVER THE INPUT: true; the input reads as it did. -/
def taskPlansSpec : ChangeSpec := { name := "taskPlans", fn := fun _ => fun
  | [d1, d2, d3, d4, d5, d6] => { results := [.lit (.bool true)], args := [d1, d2, d3, d4, d5, d6] }
  | _ => none }
def taskPlansRow : OpenClaim := { program := "ytblddkjdglliaaagreatdoor", sum := "140a24c5840c073218a85c523e4a3b43836682121382cbb958d78e788c8c1189", func := "flitting/flittinglaw19.TaskPlans", spec := "taskPlans", unfollowed := true, recurses := true, named := ["flitting/hash.turns"], apart := false, laid := [("flitting/hash.turns", laid_flitting_hash_turns)] }
def TaskPlansSaid : Prop := taskPlansRow.holds Tryz.pinned (OpenSpec.ofChange taskPlansSpec)

/-- ITS FALSE NEIGHBOUR: 'it returns false'. Refute it at one input. -/
def taskPlansWrong : ChangeSpec := { name := "taskPlans", fn := fun _ => fun
  | [d1, d2, d3, d4, d5, d6] => { results := [.lit (.bool false)], args := [d1, d2, d3, d4, d5, d6] }
  | _ => none }
def TaskPlansWrongFalsely : Prop := taskPlansRow.holds Tryz.pinned (OpenSpec.ofChange taskPlansWrong)

/-- 'flittinglaw19.TaskOthers': WHATEVER THE INPUT: true; the input reads as it did. -/
def taskOthersSpec : ChangeSpec := { name := "taskOthers", fn := fun _ => fun
  | [d1, d2] => { results := [.lit (.bool true)], args := [d1, d2] }
  | _ => none }
def taskOthersRow : OpenClaim := { program := "ytblddkjdglliaaagreatdoor", sum := "140a24c5840c073218a85c523e4a3b43836682121382cbb958d78e788c8c1189", func := "flitting/flittinglaw19.TaskOthers", spec := "taskOthers", unfollowed := true, recurses := true, named := ["flitting/hash.turns"], apart := false, laid := [("flitting/hash.turns", laid_flitting_hash_turns)] }
def TaskOthersSaid : Prop := taskOthersRow.holds Tryz.pinned (OpenSpec.ofChange taskOthersSpec)

/-- ITS FALSE NEIGHBOUR: 'it returns false'. Refute it at one input. -/
def taskOthersWrong : ChangeSpec := { name := "taskOthers", fn := fun _ => fun
  | [d1, d2] => { results := [.lit (.bool false)], args := [d1, d2] }
  | _ => none }
def TaskOthersWrongFalsely : Prop := taskOthersRow.holds Tryz.pinned (OpenSpec.ofChange taskOthersWrong)

/-- 'flittinglaw19.TaskCheck': WHATEVER THE INPUT: true; the input reads as it did. -/
def taskCheckSpec : ChangeSpec := { name := "taskCheck", fn := fun _ => fun
  | [d1, d2, d3, d4] => { results := [.lit (.bool true)], args := [d1, d2, d3, d4] }
  | _ => none }
def taskCheckRow : OpenClaim := { program := "ytblddkjdglliaaagreatdoor", sum := "140a24c5840c073218a85c523e4a3b43836682121382cbb958d78e788c8c1189", func := "flitting/flittinglaw19.TaskCheck", spec := "taskCheck", unfollowed := true, recurses := true, named := ["flitting/hash.turns"], apart := false, laid := [("flitting/hash.turns", laid_flitting_hash_turns)] }
def TaskCheckSaid : Prop := taskCheckRow.holds Tryz.pinned (OpenSpec.ofChange taskCheckSpec)

/-- ITS FALSE NEIGHBOUR: 'it returns false'. Refute it at one input. -/
def taskCheckWrong : ChangeSpec := { name := "taskCheck", fn := fun _ => fun
  | [d1, d2, d3, d4] => { results := [.lit (.bool false)], args := [d1, d2, d3, d4] }
  | _ => none }
def TaskCheckWrongFalsely : Prop := taskCheckRow.holds Tryz.pinned (OpenSpec.ofChange taskCheckWrong)

/-- 'flittinglaw19.TaskFull': WHATEVER THE INPUT: true; the input reads as it did. -/
def taskFullSpec : ChangeSpec := { name := "taskFull", fn := fun _ => fun
  | [d1, d2] => { results := [.lit (.bool true)], args := [d1, d2] }
  | _ => none }
def taskFullRow : OpenClaim := { program := "ytblddkjdglliaaagreatdoor", sum := "140a24c5840c073218a85c523e4a3b43836682121382cbb958d78e788c8c1189", func := "flitting/flittinglaw19.TaskFull", spec := "taskFull", unfollowed := true, recurses := true, named := ["flitting/hash.turns"], apart := false, laid := [("flitting/hash.turns", laid_flitting_hash_turns)] }
def TaskFullSaid : Prop := taskFullRow.holds Tryz.pinned (OpenSpec.ofChange taskFullSpec)

/-- ITS FALSE NEIGHBOUR: 'it returns false'. Refute it at one input. -/
def taskFullWrong : ChangeSpec := { name := "taskFull", fn := fun _ => fun
  | [d1, d2] => { results := [.lit (.bool false)], args := [d1, d2] }
  | _ => none }
def TaskFullWrongFalsely : Prop := taskFullRow.holds Tryz.pinned (OpenSpec.ofChange taskFullWrong)

/-- 'flittinglaw19.TaskOwn': WHATEVER THE INPUT: true; the input reads as it did. -/
def taskOwnSpec : ChangeSpec := { name := "taskOwn", fn := fun _ => fun
  | [d1, d2] => { results := [.lit (.bool true)], args := [d1, d2] }
  | _ => none }
def taskOwnRow : OpenClaim := { program := "ytblddkjdglliaaagreatdoor", sum := "140a24c5840c073218a85c523e4a3b43836682121382cbb958d78e788c8c1189", func := "flitting/flittinglaw19.TaskOwn", spec := "taskOwn", unfollowed := true, recurses := true, named := ["flitting/hash.turns"], apart := false, laid := [("flitting/hash.turns", laid_flitting_hash_turns)] }
def TaskOwnSaid : Prop := taskOwnRow.holds Tryz.pinned (OpenSpec.ofChange taskOwnSpec)

/-- ITS FALSE NEIGHBOUR: 'it returns false'. Refute it at one input. -/
def taskOwnWrong : ChangeSpec := { name := "taskOwn", fn := fun _ => fun
  | [d1, d2] => { results := [.lit (.bool false)], args := [d1, d2] }
  | _ => none }
def TaskOwnWrongFalsely : Prop := taskOwnRow.holds Tryz.pinned (OpenSpec.ofChange taskOwnWrong)

/-- 'flittinglaw19.TaskWrites': WHATEVER THE INPUT: true; the input reads as it did. -/
def taskWritesSpec : ChangeSpec := { name := "taskWrites", fn := fun _ => fun
  | [d1, d2, d3, d4] => { results := [.lit (.bool true)], args := [d1, d2, d3, d4] }
  | _ => none }
def taskWritesRow : OpenClaim := { program := "ytblddkjdglliaaagreatdoor", sum := "140a24c5840c073218a85c523e4a3b43836682121382cbb958d78e788c8c1189", func := "flitting/flittinglaw19.TaskWrites", spec := "taskWrites", unfollowed := true, recurses := true, named := ["flitting/hash.turns"], apart := false, laid := [("flitting/hash.turns", laid_flitting_hash_turns)] }
def TaskWritesSaid : Prop := taskWritesRow.holds Tryz.pinned (OpenSpec.ofChange taskWritesSpec)

/-- ITS FALSE NEIGHBOUR: 'it returns false'. Refute it at one input. -/
def taskWritesWrong : ChangeSpec := { name := "taskWrites", fn := fun _ => fun
  | [d1, d2, d3, d4] => { results := [.lit (.bool false)], args := [d1, d2, d3, d4] }
  | _ => none }
def TaskWritesWrongFalsely : Prop := taskWritesRow.holds Tryz.pinned (OpenSpec.ofChange taskWritesWrong)

/-- 'flittinglaw17.PlanClean': WHATEVER THE INPUT: true; the input reads as it did. -/
def planCleanSpec : ChangeSpec := { name := "planClean", fn := fun _ => fun
  | [d1, d2] => { results := [.lit (.bool true)], args := [d1, d2] }
  | _ => none }
def planCleanRow : OpenClaim := { program := "ytblddkjdglliaaagreatdoor", sum := "140a24c5840c073218a85c523e4a3b43836682121382cbb958d78e788c8c1189", func := "flitting/flittinglaw17.PlanClean", spec := "planClean", unfollowed := true, recurses := true, named := ["flitting/hash.turns"], apart := false, laid := [("flitting/hash.turns", laid_flitting_hash_turns)] }
def PlanCleanSaid : Prop := planCleanRow.holds Tryz.pinned (OpenSpec.ofChange planCleanSpec)

/-- ITS FALSE NEIGHBOUR: 'it returns false'. Refute it at one input. -/
def planCleanWrong : ChangeSpec := { name := "planClean", fn := fun _ => fun
  | [d1, d2] => { results := [.lit (.bool false)], args := [d1, d2] }
  | _ => none }
def PlanCleanWrongFalsely : Prop := planCleanRow.holds Tryz.pinned (OpenSpec.ofChange planCleanWrong)

/-- 'flittinglaw17.PlanStray': WHATEVER THE INPUT: true; the input reads as it did. -/
def planStraySpec : ChangeSpec := { name := "planStray", fn := fun _ => fun
  | [d1, d2, d3, d4] => { results := [.lit (.bool true)], args := [d1, d2, d3, d4] }
  | _ => none }
def planStrayRow : OpenClaim := { program := "ytblddkjdglliaaagreatdoor", sum := "140a24c5840c073218a85c523e4a3b43836682121382cbb958d78e788c8c1189", func := "flitting/flittinglaw17.PlanStray", spec := "planStray", unfollowed := true, recurses := true, named := ["flitting/hash.turns"], apart := false, laid := [("flitting/hash.turns", laid_flitting_hash_turns)] }
def PlanStraySaid : Prop := planStrayRow.holds Tryz.pinned (OpenSpec.ofChange planStraySpec)

/-- ITS FALSE NEIGHBOUR: 'it returns false'. Refute it at one input. -/
def planStrayWrong : ChangeSpec := { name := "planStray", fn := fun _ => fun
  | [d1, d2, d3, d4] => { results := [.lit (.bool false)], args := [d1, d2, d3, d4] }
  | _ => none }
def PlanStrayWrongFalsely : Prop := planStrayRow.holds Tryz.pinned (OpenSpec.ofChange planStrayWrong)

/-- 'flittinglaw23.AuditPlaced': WHATEVER THE INPUT: true; the input reads as it did. -/
def auditPlacedSpec : ChangeSpec := { name := "auditPlaced", fn := fun _ => fun
  | [d1, d2] => { results := [.lit (.bool true)], args := [d1, d2] }
  | _ => none }
def auditPlacedRow : OpenClaim := { program := "ytblddkjdglliaaagreatdoor", sum := "140a24c5840c073218a85c523e4a3b43836682121382cbb958d78e788c8c1189", func := "flitting/flittinglaw23.AuditPlaced", spec := "auditPlaced", inPlace := ["internal/bytealg.MakeNoZero"], unfollowed := true, recurses := true, named := ["flitting/hash.turns"], apart := false, laid := [("flitting/hash.turns", laid_flitting_hash_turns)] }
def AuditPlacedSaid : Prop := auditPlacedRow.holds Tryz.pinned (OpenSpec.ofChange auditPlacedSpec)

/-- ITS FALSE NEIGHBOUR: 'it returns false'. Refute it at one input. -/
def auditPlacedWrong : ChangeSpec := { name := "auditPlaced", fn := fun _ => fun
  | [d1, d2] => { results := [.lit (.bool false)], args := [d1, d2] }
  | _ => none }
def AuditPlacedWrongFalsely : Prop := auditPlacedRow.holds Tryz.pinned (OpenSpec.ofChange auditPlacedWrong)

/- THE SECOND FORM. 'bulk': how many values and letters a reading holds, each counted each time it is reached (what is shared counts as often as it is met; a slice's spare places count too). A statement '..UptoSaid' is the law's where the arguments, and the package variables that the reading takes, are together of bulk at most 1048576: NARROWER than '..Said'. Prove '..Said' where nothing that the law and all that it calls make is longer than what came in: it says more and counts as full. Else prove '..UptoSaid'. A law counts once. -/
mutual
def uptoBulk {H : Type} : DataW H → Nat
  | .lit (.string bytes) => bytes.length + 1
  | .lit _ => 1
  | .nil => 1
  | .ptr d => uptoBulk d + 1
  | .slice elems spare => uptoBulkAll elems + uptoBulkAll spare + 1
  | .agg parts => uptoBulkAll parts + 1
  | .iface _ d => uptoBulk d + 1
  | .map entries => uptoBulkEntries entries + 1
  | .held _ => 1
def uptoBulkAll {H : Type} : List (DataW H) → Nat
  | [] => 0
  | d :: r => uptoBulk d + uptoBulkAll r
def uptoBulkEntries {H : Type} : List (Lit × DataW H) → Nat
  | [] => 0
  | x :: r => uptoBulkEntry x + uptoBulkEntries r
def uptoBulkEntry {H : Type} : Lit × DataW H → Nat
  | (.string bytes, d) => bytes.length + uptoBulk d + 1
  | (_, d) => uptoBulk d + 1
 end
def uptoSmall : (H : Type) → List (DataW H) → Bool := fun _ ds => decide (uptoBulkAll ds ≤ 1048576)
def OpenSpec.upto (s : _root_.Go.ChangeSpec) : _root_.Go.OpenSpec := { _root_.Go.OpenSpec.ofChange s with cond := some uptoSmall }

/-- 'flittinglaw19.TaskPlans', WHERE WHAT IT READS IS OF BULK AT MOST 1048576: true; the input reads as it did. -/
def taskPlansUptoRow : OpenClaim := { program := "ytblddkjdglliaaagreatdoor", sum := "140a24c5840c073218a85c523e4a3b43836682121382cbb958d78e788c8c1189", func := "flitting/flittinglaw19.TaskPlans", spec := "taskPlans", unfollowed := true, recurses := true, named := ["flitting/hash.turns"], apart := false, laid := [("flitting/hash.turns", laid_flitting_hash_turns)], narrowed := true }
def TaskPlansUptoSaid : Prop := taskPlansUptoRow.holds Tryz.pinned (OpenSpec.upto taskPlansSpec)

/-- 'flittinglaw19.TaskOthers', WHERE WHAT IT READS IS OF BULK AT MOST 1048576: true; the input reads as it did. -/
def taskOthersUptoRow : OpenClaim := { program := "ytblddkjdglliaaagreatdoor", sum := "140a24c5840c073218a85c523e4a3b43836682121382cbb958d78e788c8c1189", func := "flitting/flittinglaw19.TaskOthers", spec := "taskOthers", unfollowed := true, recurses := true, named := ["flitting/hash.turns"], apart := false, laid := [("flitting/hash.turns", laid_flitting_hash_turns)], narrowed := true }
def TaskOthersUptoSaid : Prop := taskOthersUptoRow.holds Tryz.pinned (OpenSpec.upto taskOthersSpec)

/-- 'flittinglaw19.TaskCheck', WHERE WHAT IT READS IS OF BULK AT MOST 1048576: true; the input reads as it did. -/
def taskCheckUptoRow : OpenClaim := { program := "ytblddkjdglliaaagreatdoor", sum := "140a24c5840c073218a85c523e4a3b43836682121382cbb958d78e788c8c1189", func := "flitting/flittinglaw19.TaskCheck", spec := "taskCheck", unfollowed := true, recurses := true, named := ["flitting/hash.turns"], apart := false, laid := [("flitting/hash.turns", laid_flitting_hash_turns)], narrowed := true }
def TaskCheckUptoSaid : Prop := taskCheckUptoRow.holds Tryz.pinned (OpenSpec.upto taskCheckSpec)

/-- 'flittinglaw19.TaskFull', WHERE WHAT IT READS IS OF BULK AT MOST 1048576: true; the input reads as it did. -/
def taskFullUptoRow : OpenClaim := { program := "ytblddkjdglliaaagreatdoor", sum := "140a24c5840c073218a85c523e4a3b43836682121382cbb958d78e788c8c1189", func := "flitting/flittinglaw19.TaskFull", spec := "taskFull", unfollowed := true, recurses := true, named := ["flitting/hash.turns"], apart := false, laid := [("flitting/hash.turns", laid_flitting_hash_turns)], narrowed := true }
def TaskFullUptoSaid : Prop := taskFullUptoRow.holds Tryz.pinned (OpenSpec.upto taskFullSpec)

/-- 'flittinglaw19.TaskOwn', WHERE WHAT IT READS IS OF BULK AT MOST 1048576: true; the input reads as it did. -/
def taskOwnUptoRow : OpenClaim := { program := "ytblddkjdglliaaagreatdoor", sum := "140a24c5840c073218a85c523e4a3b43836682121382cbb958d78e788c8c1189", func := "flitting/flittinglaw19.TaskOwn", spec := "taskOwn", unfollowed := true, recurses := true, named := ["flitting/hash.turns"], apart := false, laid := [("flitting/hash.turns", laid_flitting_hash_turns)], narrowed := true }
def TaskOwnUptoSaid : Prop := taskOwnUptoRow.holds Tryz.pinned (OpenSpec.upto taskOwnSpec)

/-- 'flittinglaw19.TaskWrites', WHERE WHAT IT READS IS OF BULK AT MOST 1048576: true; the input reads as it did. -/
def taskWritesUptoRow : OpenClaim := { program := "ytblddkjdglliaaagreatdoor", sum := "140a24c5840c073218a85c523e4a3b43836682121382cbb958d78e788c8c1189", func := "flitting/flittinglaw19.TaskWrites", spec := "taskWrites", unfollowed := true, recurses := true, named := ["flitting/hash.turns"], apart := false, laid := [("flitting/hash.turns", laid_flitting_hash_turns)], narrowed := true }
def TaskWritesUptoSaid : Prop := taskWritesUptoRow.holds Tryz.pinned (OpenSpec.upto taskWritesSpec)

/-- 'flittinglaw17.PlanClean', WHERE WHAT IT READS IS OF BULK AT MOST 1048576: true; the input reads as it did. -/
def planCleanUptoRow : OpenClaim := { program := "ytblddkjdglliaaagreatdoor", sum := "140a24c5840c073218a85c523e4a3b43836682121382cbb958d78e788c8c1189", func := "flitting/flittinglaw17.PlanClean", spec := "planClean", unfollowed := true, recurses := true, named := ["flitting/hash.turns"], apart := false, laid := [("flitting/hash.turns", laid_flitting_hash_turns)], narrowed := true }
def PlanCleanUptoSaid : Prop := planCleanUptoRow.holds Tryz.pinned (OpenSpec.upto planCleanSpec)

/-- 'flittinglaw17.PlanStray', WHERE WHAT IT READS IS OF BULK AT MOST 1048576: true; the input reads as it did. -/
def planStrayUptoRow : OpenClaim := { program := "ytblddkjdglliaaagreatdoor", sum := "140a24c5840c073218a85c523e4a3b43836682121382cbb958d78e788c8c1189", func := "flitting/flittinglaw17.PlanStray", spec := "planStray", unfollowed := true, recurses := true, named := ["flitting/hash.turns"], apart := false, laid := [("flitting/hash.turns", laid_flitting_hash_turns)], narrowed := true }
def PlanStrayUptoSaid : Prop := planStrayUptoRow.holds Tryz.pinned (OpenSpec.upto planStraySpec)

/-- 'flittinglaw23.AuditPlaced', WHERE WHAT IT READS IS OF BULK AT MOST 1048576: true; the input reads as it did. -/
def auditPlacedUptoRow : OpenClaim := { program := "ytblddkjdglliaaagreatdoor", sum := "140a24c5840c073218a85c523e4a3b43836682121382cbb958d78e788c8c1189", func := "flitting/flittinglaw23.AuditPlaced", spec := "auditPlaced", inPlace := ["internal/bytealg.MakeNoZero"], unfollowed := true, recurses := true, named := ["flitting/hash.turns"], apart := false, laid := [("flitting/hash.turns", laid_flitting_hash_turns)], narrowed := true }
def AuditPlacedUptoSaid : Prop := auditPlacedUptoRow.holds Tryz.pinned (OpenSpec.upto auditPlacedSpec)

end Rows
end Go.Proofs.YtblddkjdglliaaaGreatDoor
