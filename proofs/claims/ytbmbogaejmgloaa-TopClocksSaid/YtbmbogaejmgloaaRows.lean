/-
  No cell of these rows narrows 'for every input' (looked for: loops, veiled, ifaces, maps, wideKeys, modest, calm, conditions, laid).
  DERIVED. THE GIVEN ROWS OF THIS SEAT. 13 by the template 'for every input the law returns true; each argument reads behind the call as it read before'; 0 by the template 'total and deterministic' (their statements: YtbmbogaejmgloaaTotals.lean).
  GIVEN WITH THE SEED: the statements are not yours to turn. If you find one false, say at which input.
  Laid BY PROGRAM, IN A SANDBOX (cutbox-rows.mjs): the forced cells as the released guide's own fill.sh prints them over the translation 8e3bc0a3cbdddb04… (all of the seat's roots in one cut). By AI agents, Wed Nov 11 2026. No macro, syntax, notation, axiom, sorry.
-/
import Derived.Test.YtbmbogaejmgloaaChecked
import GoSem.Claim
import GoSem.ClaimJoined
import GoSem.ClaimMapViews
import Derived.JoinedTies
import Derived.KernelRfl
namespace Go.Proofs.Ytbmbogaejmgloaa
/- THE CELL 'sum', in the pinned program and in every row, IS THE sha256 OF THE DUMP (.gsa) THAT YtbmbogaejmgloaaProg.lean LOADS. Nothing in Lean hashes anything: it is a label: what it is worth is what the hold of that sum in a sandbox is worth. -/
noncomputable def Try.pinned : Pinned := { name := "ytbmbogaejmgloaa", sum := "8e3bc0a3cbdddb043d638e94924b0e8b71fbf100292f8881a2f786776d4dd837", checked := Try.checked }
namespace Rows
def none {H : Type} : Left H := { results := [], args := [] }

/-- 'quadrupolelaw05.ClockOrders': WHATEVER THE INPUT: true; the input reads as it did. -/
def clockOrdersSpec : ChangeSpec := { name := "clockOrders", fn := fun _ => fun
  | [d1, d2] => { results := [.lit (.bool true)], args := [d1, d2] }
  | _ => none }
def clockOrdersRow : OpenClaim := { program := "ytbmbogaejmgloaa", sum := "8e3bc0a3cbdddb043d638e94924b0e8b71fbf100292f8881a2f786776d4dd837", func := "quadrupole/quadrupolelaw05.ClockOrders", spec := "clockOrders", unfollowed := true, recurses := true, apart := false }
def ClockOrdersSaid : Prop := clockOrdersRow.holds Try.pinned (OpenSpec.ofChange clockOrdersSpec)

/-- ITS FALSE NEIGHBOUR: 'it returns false'. Refute it at one input. -/
def clockOrdersWrong : ChangeSpec := { name := "clockOrders", fn := fun _ => fun
  | [d1, d2] => { results := [.lit (.bool false)], args := [d1, d2] }
  | _ => none }
def ClockOrdersWrongFalsely : Prop := clockOrdersRow.holds Try.pinned (OpenSpec.ofChange clockOrdersWrong)

/-- 'quadrupolelaw05.ClockUrgent': WHATEVER THE INPUT: true; the input reads as it did. -/
def clockUrgentSpec : ChangeSpec := { name := "clockUrgent", fn := fun _ => fun
  | [d] => { results := [.lit (.bool true)], args := [d] }
  | _ => none }
def clockUrgentRow : OpenClaim := { program := "ytbmbogaejmgloaa", sum := "8e3bc0a3cbdddb043d638e94924b0e8b71fbf100292f8881a2f786776d4dd837", func := "quadrupole/quadrupolelaw05.ClockUrgent", spec := "clockUrgent", unfollowed := true, recurses := true, apart := false }
def ClockUrgentSaid : Prop := clockUrgentRow.holds Try.pinned (OpenSpec.ofChange clockUrgentSpec)

/-- ITS FALSE NEIGHBOUR: 'it returns false'. Refute it at one input. -/
def clockUrgentWrong : ChangeSpec := { name := "clockUrgent", fn := fun _ => fun
  | [d] => { results := [.lit (.bool false)], args := [d] }
  | _ => none }
def ClockUrgentWrongFalsely : Prop := clockUrgentRow.holds Try.pinned (OpenSpec.ofChange clockUrgentWrong)

/-- 'quadrupoletop.TopClocks': WHATEVER THE INPUT: true; the input reads as it did. -/
def topClocksSpec : ChangeSpec := { name := "topClocks", fn := fun _ => fun
  | [d1, d2, d3] => { results := [.lit (.bool true)], args := [d1, d2, d3] }
  | _ => none }
def topClocksRow : OpenClaim := { program := "ytbmbogaejmgloaa", sum := "8e3bc0a3cbdddb043d638e94924b0e8b71fbf100292f8881a2f786776d4dd837", func := "quadrupole/quadrupoletop.TopClocks", spec := "topClocks", unfollowed := true, recurses := true, apart := false }
def TopClocksSaid : Prop := topClocksRow.holds Try.pinned (OpenSpec.ofChange topClocksSpec)

/-- ITS FALSE NEIGHBOUR: 'it returns false'. Refute it at one input. -/
def topClocksWrong : ChangeSpec := { name := "topClocks", fn := fun _ => fun
  | [d1, d2, d3] => { results := [.lit (.bool false)], args := [d1, d2, d3] }
  | _ => none }
def TopClocksWrongFalsely : Prop := topClocksRow.holds Try.pinned (OpenSpec.ofChange topClocksWrong)

/-- 'quadrupolelaw05.ClockCrowds': WHATEVER THE INPUT: true; the input reads as it did. -/
def clockCrowdsSpec : ChangeSpec := { name := "clockCrowds", fn := fun _ => fun
  | [d] => { results := [.lit (.bool true)], args := [d] }
  | _ => none }
def clockCrowdsRow : OpenClaim := { program := "ytbmbogaejmgloaa", sum := "8e3bc0a3cbdddb043d638e94924b0e8b71fbf100292f8881a2f786776d4dd837", func := "quadrupole/quadrupolelaw05.ClockCrowds", spec := "clockCrowds", unfollowed := true, recurses := true, apart := false }
def ClockCrowdsSaid : Prop := clockCrowdsRow.holds Try.pinned (OpenSpec.ofChange clockCrowdsSpec)

/-- ITS FALSE NEIGHBOUR: 'it returns false'. Refute it at one input. -/
def clockCrowdsWrong : ChangeSpec := { name := "clockCrowds", fn := fun _ => fun
  | [d] => { results := [.lit (.bool false)], args := [d] }
  | _ => none }
def ClockCrowdsWrongFalsely : Prop := clockCrowdsRow.holds Try.pinned (OpenSpec.ofChange clockCrowdsWrong)

/-- 'quadrupolelaw05.ClockKeeps': WHATEVER THE INPUT: true; the input reads as it did. -/
def clockKeepsSpec : ChangeSpec := { name := "clockKeeps", fn := fun _ => fun
  | [d] => { results := [.lit (.bool true)], args := [d] }
  | _ => none }
def clockKeepsRow : OpenClaim := { program := "ytbmbogaejmgloaa", sum := "8e3bc0a3cbdddb043d638e94924b0e8b71fbf100292f8881a2f786776d4dd837", func := "quadrupole/quadrupolelaw05.ClockKeeps", spec := "clockKeeps", unfollowed := true, recurses := true, apart := false }
def ClockKeepsSaid : Prop := clockKeepsRow.holds Try.pinned (OpenSpec.ofChange clockKeepsSpec)

/-- ITS FALSE NEIGHBOUR: 'it returns false'. Refute it at one input. -/
def clockKeepsWrong : ChangeSpec := { name := "clockKeeps", fn := fun _ => fun
  | [d] => { results := [.lit (.bool false)], args := [d] }
  | _ => none }
def ClockKeepsWrongFalsely : Prop := clockKeepsRow.holds Try.pinned (OpenSpec.ofChange clockKeepsWrong)

/-- 'quadrupolelaw05.ClockRelaxes': WHATEVER THE INPUT: true; the input reads as it did. -/
def clockRelaxesSpec : ChangeSpec := { name := "clockRelaxes", fn := fun _ => fun
  | [d1, d2] => { results := [.lit (.bool true)], args := [d1, d2] }
  | _ => none }
def clockRelaxesRow : OpenClaim := { program := "ytbmbogaejmgloaa", sum := "8e3bc0a3cbdddb043d638e94924b0e8b71fbf100292f8881a2f786776d4dd837", func := "quadrupole/quadrupolelaw05.ClockRelaxes", spec := "clockRelaxes", unfollowed := true, recurses := true, apart := false }
def ClockRelaxesSaid : Prop := clockRelaxesRow.holds Try.pinned (OpenSpec.ofChange clockRelaxesSpec)

/-- ITS FALSE NEIGHBOUR: 'it returns false'. Refute it at one input. -/
def clockRelaxesWrong : ChangeSpec := { name := "clockRelaxes", fn := fun _ => fun
  | [d1, d2] => { results := [.lit (.bool false)], args := [d1, d2] }
  | _ => none }
def ClockRelaxesWrongFalsely : Prop := clockRelaxesRow.holds Try.pinned (OpenSpec.ofChange clockRelaxesWrong)

/-- 'quadrupolelaw05.ClockShifts': WHATEVER THE INPUT: true; the input reads as it did. -/
def clockShiftsSpec : ChangeSpec := { name := "clockShifts", fn := fun _ => fun
  | [d1, d2] => { results := [.lit (.bool true)], args := [d1, d2] }
  | _ => none }
def clockShiftsRow : OpenClaim := { program := "ytbmbogaejmgloaa", sum := "8e3bc0a3cbdddb043d638e94924b0e8b71fbf100292f8881a2f786776d4dd837", func := "quadrupole/quadrupolelaw05.ClockShifts", spec := "clockShifts", unfollowed := true, recurses := true, apart := false }
def ClockShiftsSaid : Prop := clockShiftsRow.holds Try.pinned (OpenSpec.ofChange clockShiftsSpec)

/-- ITS FALSE NEIGHBOUR: 'it returns false'. Refute it at one input. -/
def clockShiftsWrong : ChangeSpec := { name := "clockShifts", fn := fun _ => fun
  | [d1, d2] => { results := [.lit (.bool false)], args := [d1, d2] }
  | _ => none }
def ClockShiftsWrongFalsely : Prop := clockShiftsRow.holds Try.pinned (OpenSpec.ofChange clockShiftsWrong)

/-- 'quadrupolelaw05.ClockBacklogs': WHATEVER THE INPUT: true; the input reads as it did. -/
def clockBacklogsSpec : ChangeSpec := { name := "clockBacklogs", fn := fun _ => fun
  | [d1, d2] => { results := [.lit (.bool true)], args := [d1, d2] }
  | _ => none }
def clockBacklogsRow : OpenClaim := { program := "ytbmbogaejmgloaa", sum := "8e3bc0a3cbdddb043d638e94924b0e8b71fbf100292f8881a2f786776d4dd837", func := "quadrupole/quadrupolelaw05.ClockBacklogs", spec := "clockBacklogs", unfollowed := true, recurses := true, apart := false }
def ClockBacklogsSaid : Prop := clockBacklogsRow.holds Try.pinned (OpenSpec.ofChange clockBacklogsSpec)

/-- ITS FALSE NEIGHBOUR: 'it returns false'. Refute it at one input. -/
def clockBacklogsWrong : ChangeSpec := { name := "clockBacklogs", fn := fun _ => fun
  | [d1, d2] => { results := [.lit (.bool false)], args := [d1, d2] }
  | _ => none }
def ClockBacklogsWrongFalsely : Prop := clockBacklogsRow.holds Try.pinned (OpenSpec.ofChange clockBacklogsWrong)

/-- 'quadrupolelaw05.ClockTurns': WHATEVER THE INPUT: true; the input reads as it did. -/
def clockTurnsSpec : ChangeSpec := { name := "clockTurns", fn := fun _ => fun
  | [d] => { results := [.lit (.bool true)], args := [d] }
  | _ => none }
def clockTurnsRow : OpenClaim := { program := "ytbmbogaejmgloaa", sum := "8e3bc0a3cbdddb043d638e94924b0e8b71fbf100292f8881a2f786776d4dd837", func := "quadrupole/quadrupolelaw05.ClockTurns", spec := "clockTurns", unfollowed := true, recurses := true, apart := false }
def ClockTurnsSaid : Prop := clockTurnsRow.holds Try.pinned (OpenSpec.ofChange clockTurnsSpec)

/-- ITS FALSE NEIGHBOUR: 'it returns false'. Refute it at one input. -/
def clockTurnsWrong : ChangeSpec := { name := "clockTurns", fn := fun _ => fun
  | [d] => { results := [.lit (.bool false)], args := [d] }
  | _ => none }
def ClockTurnsWrongFalsely : Prop := clockTurnsRow.holds Try.pinned (OpenSpec.ofChange clockTurnsWrong)

/-- 'quadrupolelaw05.ClockDemands': WHATEVER THE INPUT: true; the input reads as it did. -/
def clockDemandsSpec : ChangeSpec := { name := "clockDemands", fn := fun _ => fun
  | [d1, d2] => { results := [.lit (.bool true)], args := [d1, d2] }
  | _ => none }
def clockDemandsRow : OpenClaim := { program := "ytbmbogaejmgloaa", sum := "8e3bc0a3cbdddb043d638e94924b0e8b71fbf100292f8881a2f786776d4dd837", func := "quadrupole/quadrupolelaw05.ClockDemands", spec := "clockDemands", unfollowed := true, recurses := true, apart := false }
def ClockDemandsSaid : Prop := clockDemandsRow.holds Try.pinned (OpenSpec.ofChange clockDemandsSpec)

/-- ITS FALSE NEIGHBOUR: 'it returns false'. Refute it at one input. -/
def clockDemandsWrong : ChangeSpec := { name := "clockDemands", fn := fun _ => fun
  | [d1, d2] => { results := [.lit (.bool false)], args := [d1, d2] }
  | _ => none }
def ClockDemandsWrongFalsely : Prop := clockDemandsRow.holds Try.pinned (OpenSpec.ofChange clockDemandsWrong)

/-- 'quadrupolelaw05.ClockTables': WHATEVER THE INPUT: true; the input reads as it did. -/
def clockTablesSpec : ChangeSpec := { name := "clockTables", fn := fun _ => fun
  | [d1, d2] => { results := [.lit (.bool true)], args := [d1, d2] }
  | _ => none }
def clockTablesRow : OpenClaim := { program := "ytbmbogaejmgloaa", sum := "8e3bc0a3cbdddb043d638e94924b0e8b71fbf100292f8881a2f786776d4dd837", func := "quadrupole/quadrupolelaw05.ClockTables", spec := "clockTables", unfollowed := true, recurses := true, apart := false }
def ClockTablesSaid : Prop := clockTablesRow.holds Try.pinned (OpenSpec.ofChange clockTablesSpec)

/-- ITS FALSE NEIGHBOUR: 'it returns false'. Refute it at one input. -/
def clockTablesWrong : ChangeSpec := { name := "clockTables", fn := fun _ => fun
  | [d1, d2] => { results := [.lit (.bool false)], args := [d1, d2] }
  | _ => none }
def ClockTablesWrongFalsely : Prop := clockTablesRow.holds Try.pinned (OpenSpec.ofChange clockTablesWrong)

/-- 'quadrupolelaw05.ClockLates': WHATEVER THE INPUT: true; the input reads as it did. -/
def clockLatesSpec : ChangeSpec := { name := "clockLates", fn := fun _ => fun
  | [d] => { results := [.lit (.bool true)], args := [d] }
  | _ => none }
def clockLatesRow : OpenClaim := { program := "ytbmbogaejmgloaa", sum := "8e3bc0a3cbdddb043d638e94924b0e8b71fbf100292f8881a2f786776d4dd837", func := "quadrupole/quadrupolelaw05.ClockLates", spec := "clockLates", unfollowed := true, recurses := true, apart := false }
def ClockLatesSaid : Prop := clockLatesRow.holds Try.pinned (OpenSpec.ofChange clockLatesSpec)

/-- ITS FALSE NEIGHBOUR: 'it returns false'. Refute it at one input. -/
def clockLatesWrong : ChangeSpec := { name := "clockLates", fn := fun _ => fun
  | [d] => { results := [.lit (.bool false)], args := [d] }
  | _ => none }
def ClockLatesWrongFalsely : Prop := clockLatesRow.holds Try.pinned (OpenSpec.ofChange clockLatesWrong)

/-- 'quadrupolelaw05.ClockLess': WHATEVER THE INPUT: true; the input reads as it did. -/
def clockLessSpec : ChangeSpec := { name := "clockLess", fn := fun _ => fun
  | [d1, d2, d3] => { results := [.lit (.bool true)], args := [d1, d2, d3] }
  | _ => none }
def clockLessRow : OpenClaim := { program := "ytbmbogaejmgloaa", sum := "8e3bc0a3cbdddb043d638e94924b0e8b71fbf100292f8881a2f786776d4dd837", func := "quadrupole/quadrupolelaw05.ClockLess", spec := "clockLess", unfollowed := true, recurses := true, apart := false }
def ClockLessSaid : Prop := clockLessRow.holds Try.pinned (OpenSpec.ofChange clockLessSpec)

/-- ITS FALSE NEIGHBOUR: 'it returns false'. Refute it at one input. -/
def clockLessWrong : ChangeSpec := { name := "clockLess", fn := fun _ => fun
  | [d1, d2, d3] => { results := [.lit (.bool false)], args := [d1, d2, d3] }
  | _ => none }
def ClockLessWrongFalsely : Prop := clockLessRow.holds Try.pinned (OpenSpec.ofChange clockLessWrong)

/- THE SECOND FORM. 'bulk': how many values and letters a reading holds, each counted each time it is reached (what is shared counts as often as it is met; a slice's spare places count too). A statement '..UptoSaid' is the law's where the arguments, and the package variables that the reading takes, are together of bulk at most 1048576: NARROWER than '..Said'. Prove '..Said' where nothing that the law and all that it calls make is longer than what came in: it says more and counts as full. Else prove '..UptoSaid'. A law counts once. -/
mutual
def uptoBulk {H : Type} : DataW H → Nat
  | .lit (.string bytes) => bytes.length + 1
  | .lit _ => 1
  | .nil => 1
  | .ptr d => uptoBulk d + 1
  | .slice elems spare => uptoBulkAll elems + uptoBulkAll spare + 1
  | .agg parts => uptoBulkAll parts + 1
  | .iface _ d => uptoBulk d + 1
  | .map entries => uptoBulkEntries entries + 1
  | .held _ => 1
def uptoBulkAll {H : Type} : List (DataW H) → Nat
  | [] => 0
  | d :: r => uptoBulk d + uptoBulkAll r
def uptoBulkEntries {H : Type} : List (Lit × DataW H) → Nat
  | [] => 0
  | x :: r => uptoBulkEntry x + uptoBulkEntries r
def uptoBulkEntry {H : Type} : Lit × DataW H → Nat
  | (.string bytes, d) => bytes.length + uptoBulk d + 1
  | (_, d) => uptoBulk d + 1
 end
def uptoSmall : (H : Type) → List (DataW H) → Bool := fun _ ds => decide (uptoBulkAll ds ≤ 1048576)
def OpenSpec.upto (s : _root_.Go.ChangeSpec) : _root_.Go.OpenSpec := { _root_.Go.OpenSpec.ofChange s with cond := some uptoSmall }

/-- 'quadrupolelaw05.ClockOrders', WHERE WHAT IT READS IS OF BULK AT MOST 1048576: true; the input reads as it did. -/
def clockOrdersUptoRow : OpenClaim := { program := "ytbmbogaejmgloaa", sum := "8e3bc0a3cbdddb043d638e94924b0e8b71fbf100292f8881a2f786776d4dd837", func := "quadrupole/quadrupolelaw05.ClockOrders", spec := "clockOrders", unfollowed := true, recurses := true, apart := false, narrowed := true }
def ClockOrdersUptoSaid : Prop := clockOrdersUptoRow.holds Try.pinned (OpenSpec.upto clockOrdersSpec)

/-- 'quadrupolelaw05.ClockUrgent', WHERE WHAT IT READS IS OF BULK AT MOST 1048576: true; the input reads as it did. -/
def clockUrgentUptoRow : OpenClaim := { program := "ytbmbogaejmgloaa", sum := "8e3bc0a3cbdddb043d638e94924b0e8b71fbf100292f8881a2f786776d4dd837", func := "quadrupole/quadrupolelaw05.ClockUrgent", spec := "clockUrgent", unfollowed := true, recurses := true, apart := false, narrowed := true }
def ClockUrgentUptoSaid : Prop := clockUrgentUptoRow.holds Try.pinned (OpenSpec.upto clockUrgentSpec)

/-- 'quadrupoletop.TopClocks', WHERE WHAT IT READS IS OF BULK AT MOST 1048576: true; the input reads as it did. -/
def topClocksUptoRow : OpenClaim := { program := "ytbmbogaejmgloaa", sum := "8e3bc0a3cbdddb043d638e94924b0e8b71fbf100292f8881a2f786776d4dd837", func := "quadrupole/quadrupoletop.TopClocks", spec := "topClocks", unfollowed := true, recurses := true, apart := false, narrowed := true }
def TopClocksUptoSaid : Prop := topClocksUptoRow.holds Try.pinned (OpenSpec.upto topClocksSpec)

/-- 'quadrupolelaw05.ClockCrowds', WHERE WHAT IT READS IS OF BULK AT MOST 1048576: true; the input reads as it did. -/
def clockCrowdsUptoRow : OpenClaim := { program := "ytbmbogaejmgloaa", sum := "8e3bc0a3cbdddb043d638e94924b0e8b71fbf100292f8881a2f786776d4dd837", func := "quadrupole/quadrupolelaw05.ClockCrowds", spec := "clockCrowds", unfollowed := true, recurses := true, apart := false, narrowed := true }
def ClockCrowdsUptoSaid : Prop := clockCrowdsUptoRow.holds Try.pinned (OpenSpec.upto clockCrowdsSpec)

/-- 'quadrupolelaw05.ClockKeeps', WHERE WHAT IT READS IS OF BULK AT MOST 1048576: true; the input reads as it did. -/
def clockKeepsUptoRow : OpenClaim := { program := "ytbmbogaejmgloaa", sum := "8e3bc0a3cbdddb043d638e94924b0e8b71fbf100292f8881a2f786776d4dd837", func := "quadrupole/quadrupolelaw05.ClockKeeps", spec := "clockKeeps", unfollowed := true, recurses := true, apart := false, narrowed := true }
def ClockKeepsUptoSaid : Prop := clockKeepsUptoRow.holds Try.pinned (OpenSpec.upto clockKeepsSpec)

/-- 'quadrupolelaw05.ClockRelaxes', WHERE WHAT IT READS IS OF BULK AT MOST 1048576: true; the input reads as it did. -/
def clockRelaxesUptoRow : OpenClaim := { program := "ytbmbogaejmgloaa", sum := "8e3bc0a3cbdddb043d638e94924b0e8b71fbf100292f8881a2f786776d4dd837", func := "quadrupole/quadrupolelaw05.ClockRelaxes", spec := "clockRelaxes", unfollowed := true, recurses := true, apart := false, narrowed := true }
def ClockRelaxesUptoSaid : Prop := clockRelaxesUptoRow.holds Try.pinned (OpenSpec.upto clockRelaxesSpec)

/-- 'quadrupolelaw05.ClockShifts', WHERE WHAT IT READS IS OF BULK AT MOST 1048576: true; the input reads as it did. -/
def clockShiftsUptoRow : OpenClaim := { program := "ytbmbogaejmgloaa", sum := "8e3bc0a3cbdddb043d638e94924b0e8b71fbf100292f8881a2f786776d4dd837", func := "quadrupole/quadrupolelaw05.ClockShifts", spec := "clockShifts", unfollowed := true, recurses := true, apart := false, narrowed := true }
def ClockShiftsUptoSaid : Prop := clockShiftsUptoRow.holds Try.pinned (OpenSpec.upto clockShiftsSpec)

/-- 'quadrupolelaw05.ClockBacklogs', WHERE WHAT IT READS IS OF BULK AT MOST 1048576: true; the input reads as it did. -/
def clockBacklogsUptoRow : OpenClaim := { program := "ytbmbogaejmgloaa", sum := "8e3bc0a3cbdddb043d638e94924b0e8b71fbf100292f8881a2f786776d4dd837", func := "quadrupole/quadrupolelaw05.ClockBacklogs", spec := "clockBacklogs", unfollowed := true, recurses := true, apart := false, narrowed := true }
def ClockBacklogsUptoSaid : Prop := clockBacklogsUptoRow.holds Try.pinned (OpenSpec.upto clockBacklogsSpec)

/-- 'quadrupolelaw05.ClockTurns', WHERE WHAT IT READS IS OF BULK AT MOST 1048576: true; the input reads as it did. -/
def clockTurnsUptoRow : OpenClaim := { program := "ytbmbogaejmgloaa", sum := "8e3bc0a3cbdddb043d638e94924b0e8b71fbf100292f8881a2f786776d4dd837", func := "quadrupole/quadrupolelaw05.ClockTurns", spec := "clockTurns", unfollowed := true, recurses := true, apart := false, narrowed := true }
def ClockTurnsUptoSaid : Prop := clockTurnsUptoRow.holds Try.pinned (OpenSpec.upto clockTurnsSpec)

/-- 'quadrupolelaw05.ClockDemands', WHERE WHAT IT READS IS OF BULK AT MOST 1048576: true; the input reads as it did. -/
def clockDemandsUptoRow : OpenClaim := { program := "ytbmbogaejmgloaa", sum := "8e3bc0a3cbdddb043d638e94924b0e8b71fbf100292f8881a2f786776d4dd837", func := "quadrupole/quadrupolelaw05.ClockDemands", spec := "clockDemands", unfollowed := true, recurses := true, apart := false, narrowed := true }
def ClockDemandsUptoSaid : Prop := clockDemandsUptoRow.holds Try.pinned (OpenSpec.upto clockDemandsSpec)

/-- 'quadrupolelaw05.ClockTables', WHERE WHAT IT READS IS OF BULK AT MOST 1048576: true; the input reads as it did. -/
def clockTablesUptoRow : OpenClaim := { program := "ytbmbogaejmgloaa", sum := "8e3bc0a3cbdddb043d638e94924b0e8b71fbf100292f8881a2f786776d4dd837", func := "quadrupole/quadrupolelaw05.ClockTables", spec := "clockTables", unfollowed := true, recurses := true, apart := false, narrowed := true }
def ClockTablesUptoSaid : Prop := clockTablesUptoRow.holds Try.pinned (OpenSpec.upto clockTablesSpec)

/-- 'quadrupolelaw05.ClockLates', WHERE WHAT IT READS IS OF BULK AT MOST 1048576: true; the input reads as it did. -/
def clockLatesUptoRow : OpenClaim := { program := "ytbmbogaejmgloaa", sum := "8e3bc0a3cbdddb043d638e94924b0e8b71fbf100292f8881a2f786776d4dd837", func := "quadrupole/quadrupolelaw05.ClockLates", spec := "clockLates", unfollowed := true, recurses := true, apart := false, narrowed := true }
def ClockLatesUptoSaid : Prop := clockLatesUptoRow.holds Try.pinned (OpenSpec.upto clockLatesSpec)

/-- 'quadrupolelaw05.ClockLess', WHERE WHAT IT READS IS OF BULK AT MOST 1048576: true; the input reads as it did. -/
def clockLessUptoRow : OpenClaim := { program := "ytbmbogaejmgloaa", sum := "8e3bc0a3cbdddb043d638e94924b0e8b71fbf100292f8881a2f786776d4dd837", func := "quadrupole/quadrupolelaw05.ClockLess", spec := "clockLess", unfollowed := true, recurses := true, apart := false, narrowed := true }
def ClockLessUptoSaid : Prop := clockLessUptoRow.holds Try.pinned (OpenSpec.upto clockLessSpec)

end Rows
end Go.Proofs.Ytbmbogaejmgloaa
