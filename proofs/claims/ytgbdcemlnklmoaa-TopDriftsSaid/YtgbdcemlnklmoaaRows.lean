/-
  No cell of these rows narrows 'for every input' (looked for: loops, veiled, ifaces, maps, wideKeys, modest, calm, conditions, laid).
  DERIVED. THE GIVEN ROWS OF THIS SEAT. 14 by the template 'for every input the law returns true; each argument reads behind the call as it read before'; 0 by the template 'total and deterministic' (their statements: YtgbdcemlnklmoaaTotals.lean).
  GIVEN WITH THE SEED: the statements are not yours to turn. If you find one false, say at which input.
  Laid BY PROGRAM, IN A SANDBOX (cutbox-rows.mjs): the forced cells as the released guide's own fill.sh prints them over the translation 1994794537cc9544… (all of the seat's roots in one cut). By AI agents, Wed Nov 11 2026. No macro, syntax, notation, axiom, sorry.
-/
import Derived.Test.YtgbdcemlnklmoaaChecked
import GoSem.Claim
import GoSem.ClaimJoined
import GoSem.ClaimMapViews
import Derived.JoinedTies
import Derived.KernelRfl
namespace Go.Proofs.Ytgbdcemlnklmoaa
/- THE CELL 'sum', in the pinned program and in every row, IS THE sha256 OF THE DUMP (.gsa) THAT YtgbdcemlnklmoaaProg.lean LOADS. Nothing in Lean hashes anything: it is a label: what it is worth is what the hold of that sum in a sandbox is worth. -/
noncomputable def Try.pinned : Pinned := { name := "ytgbdcemlnklmoaa", sum := "1994794537cc9544943386efe6a2468596a8cf6c149e73dfcca6790a67e6d9e7", checked := Try.checked }
namespace Rows
def none {H : Type} : Left H := { results := [], args := [] }

/-- 'quadrupolelaw06.DriftNear': WHATEVER THE INPUT: true; the input reads as it did. -/
def driftNearSpec : ChangeSpec := { name := "driftNear", fn := fun _ => fun
  | [d1, d2] => { results := [.lit (.bool true)], args := [d1, d2] }
  | _ => none }
def driftNearRow : OpenClaim := { program := "ytgbdcemlnklmoaa", sum := "1994794537cc9544943386efe6a2468596a8cf6c149e73dfcca6790a67e6d9e7", func := "quadrupole/quadrupolelaw06.DriftNear", spec := "driftNear", apart := false }
def DriftNearSaid : Prop := driftNearRow.holds Try.pinned (OpenSpec.ofChange driftNearSpec)

/-- ITS FALSE NEIGHBOUR: 'it returns false'. Refute it at one input. -/
def driftNearWrong : ChangeSpec := { name := "driftNear", fn := fun _ => fun
  | [d1, d2] => { results := [.lit (.bool false)], args := [d1, d2] }
  | _ => none }
def DriftNearWrongFalsely : Prop := driftNearRow.holds Try.pinned (OpenSpec.ofChange driftNearWrong)

/-- 'quadrupolelaw06.DriftBounds': WHATEVER THE INPUT: true; the input reads as it did. -/
def driftBoundsSpec : ChangeSpec := { name := "driftBounds", fn := fun _ => fun
  | [d1, d2] => { results := [.lit (.bool true)], args := [d1, d2] }
  | _ => none }
def driftBoundsRow : OpenClaim := { program := "ytgbdcemlnklmoaa", sum := "1994794537cc9544943386efe6a2468596a8cf6c149e73dfcca6790a67e6d9e7", func := "quadrupole/quadrupolelaw06.DriftBounds", spec := "driftBounds", apart := false }
def DriftBoundsSaid : Prop := driftBoundsRow.holds Try.pinned (OpenSpec.ofChange driftBoundsSpec)

/-- ITS FALSE NEIGHBOUR: 'it returns false'. Refute it at one input. -/
def driftBoundsWrong : ChangeSpec := { name := "driftBounds", fn := fun _ => fun
  | [d1, d2] => { results := [.lit (.bool false)], args := [d1, d2] }
  | _ => none }
def DriftBoundsWrongFalsely : Prop := driftBoundsRow.holds Try.pinned (OpenSpec.ofChange driftBoundsWrong)

/-- 'quadrupolelaw06.DriftUntil': WHATEVER THE INPUT: true; the input reads as it did. -/
def driftUntilSpec : ChangeSpec := { name := "driftUntil", fn := fun _ => fun
  | [d1, d2, d3] => { results := [.lit (.bool true)], args := [d1, d2, d3] }
  | _ => none }
def driftUntilRow : OpenClaim := { program := "ytgbdcemlnklmoaa", sum := "1994794537cc9544943386efe6a2468596a8cf6c149e73dfcca6790a67e6d9e7", func := "quadrupole/quadrupolelaw06.DriftUntil", spec := "driftUntil", apart := false }
def DriftUntilSaid : Prop := driftUntilRow.holds Try.pinned (OpenSpec.ofChange driftUntilSpec)

/-- ITS FALSE NEIGHBOUR: 'it returns false'. Refute it at one input. -/
def driftUntilWrong : ChangeSpec := { name := "driftUntil", fn := fun _ => fun
  | [d1, d2, d3] => { results := [.lit (.bool false)], args := [d1, d2, d3] }
  | _ => none }
def DriftUntilWrongFalsely : Prop := driftUntilRow.holds Try.pinned (OpenSpec.ofChange driftUntilWrong)

/-- 'quadrupolelaw06.DriftAgrees': WHATEVER THE INPUT: true; the input reads as it did. -/
def driftAgreesSpec : ChangeSpec := { name := "driftAgrees", fn := fun _ => fun
  | [d1, d2] => { results := [.lit (.bool true)], args := [d1, d2] }
  | _ => none }
def driftAgreesRow : OpenClaim := { program := "ytgbdcemlnklmoaa", sum := "1994794537cc9544943386efe6a2468596a8cf6c149e73dfcca6790a67e6d9e7", func := "quadrupole/quadrupolelaw06.DriftAgrees", spec := "driftAgrees", apart := false }
def DriftAgreesSaid : Prop := driftAgreesRow.holds Try.pinned (OpenSpec.ofChange driftAgreesSpec)

/-- ITS FALSE NEIGHBOUR: 'it returns false'. Refute it at one input. -/
def driftAgreesWrong : ChangeSpec := { name := "driftAgrees", fn := fun _ => fun
  | [d1, d2] => { results := [.lit (.bool false)], args := [d1, d2] }
  | _ => none }
def DriftAgreesWrongFalsely : Prop := driftAgreesRow.holds Try.pinned (OpenSpec.ofChange driftAgreesWrong)

/-- 'quadrupolelaw06.DriftTracks': WHATEVER THE INPUT: true; the input reads as it did. -/
def driftTracksSpec : ChangeSpec := { name := "driftTracks", fn := fun _ => fun
  | [d1, d2] => { results := [.lit (.bool true)], args := [d1, d2] }
  | _ => none }
def driftTracksRow : OpenClaim := { program := "ytgbdcemlnklmoaa", sum := "1994794537cc9544943386efe6a2468596a8cf6c149e73dfcca6790a67e6d9e7", func := "quadrupole/quadrupolelaw06.DriftTracks", spec := "driftTracks", apart := false }
def DriftTracksSaid : Prop := driftTracksRow.holds Try.pinned (OpenSpec.ofChange driftTracksSpec)

/-- ITS FALSE NEIGHBOUR: 'it returns false'. Refute it at one input. -/
def driftTracksWrong : ChangeSpec := { name := "driftTracks", fn := fun _ => fun
  | [d1, d2] => { results := [.lit (.bool false)], args := [d1, d2] }
  | _ => none }
def DriftTracksWrongFalsely : Prop := driftTracksRow.holds Try.pinned (OpenSpec.ofChange driftTracksWrong)

/-- 'quadrupolelaw06.DriftSlowest': WHATEVER THE INPUT: true; the input reads as it did. -/
def driftSlowestSpec : ChangeSpec := { name := "driftSlowest", fn := fun _ => fun
  | [d] => { results := [.lit (.bool true)], args := [d] }
  | _ => none }
def driftSlowestRow : OpenClaim := { program := "ytgbdcemlnklmoaa", sum := "1994794537cc9544943386efe6a2468596a8cf6c149e73dfcca6790a67e6d9e7", func := "quadrupole/quadrupolelaw06.DriftSlowest", spec := "driftSlowest", apart := false }
def DriftSlowestSaid : Prop := driftSlowestRow.holds Try.pinned (OpenSpec.ofChange driftSlowestSpec)

/-- ITS FALSE NEIGHBOUR: 'it returns false'. Refute it at one input. -/
def driftSlowestWrong : ChangeSpec := { name := "driftSlowest", fn := fun _ => fun
  | [d] => { results := [.lit (.bool false)], args := [d] }
  | _ => none }
def DriftSlowestWrongFalsely : Prop := driftSlowestRow.holds Try.pinned (OpenSpec.ofChange driftSlowestWrong)

/-- 'quadrupolelaw06.DriftTight': WHATEVER THE INPUT: true; the input reads as it did. -/
def driftTightSpec : ChangeSpec := { name := "driftTight", fn := fun _ => fun
  | [d1, d2] => { results := [.lit (.bool true)], args := [d1, d2] }
  | _ => none }
def driftTightRow : OpenClaim := { program := "ytgbdcemlnklmoaa", sum := "1994794537cc9544943386efe6a2468596a8cf6c149e73dfcca6790a67e6d9e7", func := "quadrupole/quadrupolelaw06.DriftTight", spec := "driftTight", apart := false }
def DriftTightSaid : Prop := driftTightRow.holds Try.pinned (OpenSpec.ofChange driftTightSpec)

/-- ITS FALSE NEIGHBOUR: 'it returns false'. Refute it at one input. -/
def driftTightWrong : ChangeSpec := { name := "driftTight", fn := fun _ => fun
  | [d1, d2] => { results := [.lit (.bool false)], args := [d1, d2] }
  | _ => none }
def DriftTightWrongFalsely : Prop := driftTightRow.holds Try.pinned (OpenSpec.ofChange driftTightWrong)

/-- 'quadrupolelaw06.DriftTurns': WHATEVER THE INPUT: true; the input reads as it did. -/
def driftTurnsSpec : ChangeSpec := { name := "driftTurns", fn := fun _ => fun
  | [d1, d2] => { results := [.lit (.bool true)], args := [d1, d2] }
  | _ => none }
def driftTurnsRow : OpenClaim := { program := "ytgbdcemlnklmoaa", sum := "1994794537cc9544943386efe6a2468596a8cf6c149e73dfcca6790a67e6d9e7", func := "quadrupole/quadrupolelaw06.DriftTurns", spec := "driftTurns", unfollowed := true, recurses := true, apart := false }
def DriftTurnsSaid : Prop := driftTurnsRow.holds Try.pinned (OpenSpec.ofChange driftTurnsSpec)

/-- ITS FALSE NEIGHBOUR: 'it returns false'. Refute it at one input. -/
def driftTurnsWrong : ChangeSpec := { name := "driftTurns", fn := fun _ => fun
  | [d1, d2] => { results := [.lit (.bool false)], args := [d1, d2] }
  | _ => none }
def DriftTurnsWrongFalsely : Prop := driftTurnsRow.holds Try.pinned (OpenSpec.ofChange driftTurnsWrong)

/-- 'quadrupolelaw06.DriftKeeps': WHATEVER THE INPUT: true; the input reads as it did. -/
def driftKeepsSpec : ChangeSpec := { name := "driftKeeps", fn := fun _ => fun
  | [d1, d2, d3] => { results := [.lit (.bool true)], args := [d1, d2, d3] }
  | _ => none }
def driftKeepsRow : OpenClaim := { program := "ytgbdcemlnklmoaa", sum := "1994794537cc9544943386efe6a2468596a8cf6c149e73dfcca6790a67e6d9e7", func := "quadrupole/quadrupolelaw06.DriftKeeps", spec := "driftKeeps", unfollowed := true, recurses := true, apart := false }
def DriftKeepsSaid : Prop := driftKeepsRow.holds Try.pinned (OpenSpec.ofChange driftKeepsSpec)

/-- ITS FALSE NEIGHBOUR: 'it returns false'. Refute it at one input. -/
def driftKeepsWrong : ChangeSpec := { name := "driftKeeps", fn := fun _ => fun
  | [d1, d2, d3] => { results := [.lit (.bool false)], args := [d1, d2, d3] }
  | _ => none }
def DriftKeepsWrongFalsely : Prop := driftKeepsRow.holds Try.pinned (OpenSpec.ofChange driftKeepsWrong)

/-- 'quadrupoletop.TopDrifts': WHATEVER THE INPUT: true; the input reads as it did. -/
def topDriftsSpec : ChangeSpec := { name := "topDrifts", fn := fun _ => fun
  | [d1, d2, d3] => { results := [.lit (.bool true)], args := [d1, d2, d3] }
  | _ => none }
def topDriftsRow : OpenClaim := { program := "ytgbdcemlnklmoaa", sum := "1994794537cc9544943386efe6a2468596a8cf6c149e73dfcca6790a67e6d9e7", func := "quadrupole/quadrupoletop.TopDrifts", spec := "topDrifts", unfollowed := true, recurses := true, apart := false }
def TopDriftsSaid : Prop := topDriftsRow.holds Try.pinned (OpenSpec.ofChange topDriftsSpec)

/-- ITS FALSE NEIGHBOUR: 'it returns false'. Refute it at one input. -/
def topDriftsWrong : ChangeSpec := { name := "topDrifts", fn := fun _ => fun
  | [d1, d2, d3] => { results := [.lit (.bool false)], args := [d1, d2, d3] }
  | _ => none }
def TopDriftsWrongFalsely : Prop := topDriftsRow.holds Try.pinned (OpenSpec.ofChange topDriftsWrong)

/-- 'quadrupolelaw06.DriftChecks': WHATEVER THE INPUT: true; the input reads as it did. -/
def driftChecksSpec : ChangeSpec := { name := "driftChecks", fn := fun _ => fun
  | [d1, d2, d3] => { results := [.lit (.bool true)], args := [d1, d2, d3] }
  | _ => none }
def driftChecksRow : OpenClaim := { program := "ytgbdcemlnklmoaa", sum := "1994794537cc9544943386efe6a2468596a8cf6c149e73dfcca6790a67e6d9e7", func := "quadrupole/quadrupolelaw06.DriftChecks", spec := "driftChecks", unfollowed := true, recurses := true, apart := false }
def DriftChecksSaid : Prop := driftChecksRow.holds Try.pinned (OpenSpec.ofChange driftChecksSpec)

/-- ITS FALSE NEIGHBOUR: 'it returns false'. Refute it at one input. -/
def driftChecksWrong : ChangeSpec := { name := "driftChecks", fn := fun _ => fun
  | [d1, d2, d3] => { results := [.lit (.bool false)], args := [d1, d2, d3] }
  | _ => none }
def DriftChecksWrongFalsely : Prop := driftChecksRow.holds Try.pinned (OpenSpec.ofChange driftChecksWrong)

/-- 'quadrupolelaw06.DriftShifts': WHATEVER THE INPUT: true; the input reads as it did. -/
def driftShiftsSpec : ChangeSpec := { name := "driftShifts", fn := fun _ => fun
  | [d1, d2, d3] => { results := [.lit (.bool true)], args := [d1, d2, d3] }
  | _ => none }
def driftShiftsRow : OpenClaim := { program := "ytgbdcemlnklmoaa", sum := "1994794537cc9544943386efe6a2468596a8cf6c149e73dfcca6790a67e6d9e7", func := "quadrupole/quadrupolelaw06.DriftShifts", spec := "driftShifts", apart := false }
def DriftShiftsSaid : Prop := driftShiftsRow.holds Try.pinned (OpenSpec.ofChange driftShiftsSpec)

/-- ITS FALSE NEIGHBOUR: 'it returns false'. Refute it at one input. -/
def driftShiftsWrong : ChangeSpec := { name := "driftShifts", fn := fun _ => fun
  | [d1, d2, d3] => { results := [.lit (.bool false)], args := [d1, d2, d3] }
  | _ => none }
def DriftShiftsWrongFalsely : Prop := driftShiftsRow.holds Try.pinned (OpenSpec.ofChange driftShiftsWrong)

/-- 'quadrupolelaw06.DriftWithout': WHATEVER THE INPUT: true; the input reads as it did. -/
def driftWithoutSpec : ChangeSpec := { name := "driftWithout", fn := fun _ => fun
  | [d1, d2, d3] => { results := [.lit (.bool true)], args := [d1, d2, d3] }
  | _ => none }
def driftWithoutRow : OpenClaim := { program := "ytgbdcemlnklmoaa", sum := "1994794537cc9544943386efe6a2468596a8cf6c149e73dfcca6790a67e6d9e7", func := "quadrupole/quadrupolelaw06.DriftWithout", spec := "driftWithout", unfollowed := true, recurses := true, apart := false }
def DriftWithoutSaid : Prop := driftWithoutRow.holds Try.pinned (OpenSpec.ofChange driftWithoutSpec)

/-- ITS FALSE NEIGHBOUR: 'it returns false'. Refute it at one input. -/
def driftWithoutWrong : ChangeSpec := { name := "driftWithout", fn := fun _ => fun
  | [d1, d2, d3] => { results := [.lit (.bool false)], args := [d1, d2, d3] }
  | _ => none }
def DriftWithoutWrongFalsely : Prop := driftWithoutRow.holds Try.pinned (OpenSpec.ofChange driftWithoutWrong)

/-- 'quadrupolelaw06.DriftNeedless': WHATEVER THE INPUT: true; the input reads as it did. -/
def driftNeedlessSpec : ChangeSpec := { name := "driftNeedless", fn := fun _ => fun
  | [d1, d2] => { results := [.lit (.bool true)], args := [d1, d2] }
  | _ => none }
def driftNeedlessRow : OpenClaim := { program := "ytgbdcemlnklmoaa", sum := "1994794537cc9544943386efe6a2468596a8cf6c149e73dfcca6790a67e6d9e7", func := "quadrupole/quadrupolelaw06.DriftNeedless", spec := "driftNeedless", apart := false }
def DriftNeedlessSaid : Prop := driftNeedlessRow.holds Try.pinned (OpenSpec.ofChange driftNeedlessSpec)

/-- ITS FALSE NEIGHBOUR: 'it returns false'. Refute it at one input. -/
def driftNeedlessWrong : ChangeSpec := { name := "driftNeedless", fn := fun _ => fun
  | [d1, d2] => { results := [.lit (.bool false)], args := [d1, d2] }
  | _ => none }
def DriftNeedlessWrongFalsely : Prop := driftNeedlessRow.holds Try.pinned (OpenSpec.ofChange driftNeedlessWrong)

/- THE SECOND FORM. 'bulk': how many values and letters a reading holds, each counted each time it is reached (what is shared counts as often as it is met; a slice's spare places count too). A statement '..UptoSaid' is the law's where the arguments, and the package variables that the reading takes, are together of bulk at most 1048576: NARROWER than '..Said'. Prove '..Said' where nothing that the law and all that it calls make is longer than what came in: it says more and counts as full. Else prove '..UptoSaid'. A law counts once. -/
mutual
def uptoBulk {H : Type} : DataW H → Nat
  | .lit (.string bytes) => bytes.length + 1
  | .lit _ => 1
  | .nil => 1
  | .ptr d => uptoBulk d + 1
  | .slice elems spare => uptoBulkAll elems + uptoBulkAll spare + 1
  | .agg parts => uptoBulkAll parts + 1
  | .iface _ d => uptoBulk d + 1
  | .map entries => uptoBulkEntries entries + 1
  | .held _ => 1
def uptoBulkAll {H : Type} : List (DataW H) → Nat
  | [] => 0
  | d :: r => uptoBulk d + uptoBulkAll r
def uptoBulkEntries {H : Type} : List (Lit × DataW H) → Nat
  | [] => 0
  | x :: r => uptoBulkEntry x + uptoBulkEntries r
def uptoBulkEntry {H : Type} : Lit × DataW H → Nat
  | (.string bytes, d) => bytes.length + uptoBulk d + 1
  | (_, d) => uptoBulk d + 1
 end
def uptoSmall : (H : Type) → List (DataW H) → Bool := fun _ ds => decide (uptoBulkAll ds ≤ 1048576)
def OpenSpec.upto (s : _root_.Go.ChangeSpec) : _root_.Go.OpenSpec := { _root_.Go.OpenSpec.ofChange s with cond := some uptoSmall }

/-- 'quadrupolelaw06.DriftNear', WHERE WHAT IT READS IS OF BULK AT MOST 1048576: true; the input reads as it did. -/
def driftNearUptoRow : OpenClaim := { program := "ytgbdcemlnklmoaa", sum := "1994794537cc9544943386efe6a2468596a8cf6c149e73dfcca6790a67e6d9e7", func := "quadrupole/quadrupolelaw06.DriftNear", spec := "driftNear", apart := false, narrowed := true }
def DriftNearUptoSaid : Prop := driftNearUptoRow.holds Try.pinned (OpenSpec.upto driftNearSpec)

/-- 'quadrupolelaw06.DriftBounds', WHERE WHAT IT READS IS OF BULK AT MOST 1048576: true; the input reads as it did. -/
def driftBoundsUptoRow : OpenClaim := { program := "ytgbdcemlnklmoaa", sum := "1994794537cc9544943386efe6a2468596a8cf6c149e73dfcca6790a67e6d9e7", func := "quadrupole/quadrupolelaw06.DriftBounds", spec := "driftBounds", apart := false, narrowed := true }
def DriftBoundsUptoSaid : Prop := driftBoundsUptoRow.holds Try.pinned (OpenSpec.upto driftBoundsSpec)

/-- 'quadrupolelaw06.DriftUntil', WHERE WHAT IT READS IS OF BULK AT MOST 1048576: true; the input reads as it did. -/
def driftUntilUptoRow : OpenClaim := { program := "ytgbdcemlnklmoaa", sum := "1994794537cc9544943386efe6a2468596a8cf6c149e73dfcca6790a67e6d9e7", func := "quadrupole/quadrupolelaw06.DriftUntil", spec := "driftUntil", apart := false, narrowed := true }
def DriftUntilUptoSaid : Prop := driftUntilUptoRow.holds Try.pinned (OpenSpec.upto driftUntilSpec)

/-- 'quadrupolelaw06.DriftAgrees', WHERE WHAT IT READS IS OF BULK AT MOST 1048576: true; the input reads as it did. -/
def driftAgreesUptoRow : OpenClaim := { program := "ytgbdcemlnklmoaa", sum := "1994794537cc9544943386efe6a2468596a8cf6c149e73dfcca6790a67e6d9e7", func := "quadrupole/quadrupolelaw06.DriftAgrees", spec := "driftAgrees", apart := false, narrowed := true }
def DriftAgreesUptoSaid : Prop := driftAgreesUptoRow.holds Try.pinned (OpenSpec.upto driftAgreesSpec)

/-- 'quadrupolelaw06.DriftTracks', WHERE WHAT IT READS IS OF BULK AT MOST 1048576: true; the input reads as it did. -/
def driftTracksUptoRow : OpenClaim := { program := "ytgbdcemlnklmoaa", sum := "1994794537cc9544943386efe6a2468596a8cf6c149e73dfcca6790a67e6d9e7", func := "quadrupole/quadrupolelaw06.DriftTracks", spec := "driftTracks", apart := false, narrowed := true }
def DriftTracksUptoSaid : Prop := driftTracksUptoRow.holds Try.pinned (OpenSpec.upto driftTracksSpec)

/-- 'quadrupolelaw06.DriftSlowest', WHERE WHAT IT READS IS OF BULK AT MOST 1048576: true; the input reads as it did. -/
def driftSlowestUptoRow : OpenClaim := { program := "ytgbdcemlnklmoaa", sum := "1994794537cc9544943386efe6a2468596a8cf6c149e73dfcca6790a67e6d9e7", func := "quadrupole/quadrupolelaw06.DriftSlowest", spec := "driftSlowest", apart := false, narrowed := true }
def DriftSlowestUptoSaid : Prop := driftSlowestUptoRow.holds Try.pinned (OpenSpec.upto driftSlowestSpec)

/-- 'quadrupolelaw06.DriftTight', WHERE WHAT IT READS IS OF BULK AT MOST 1048576: true; the input reads as it did. -/
def driftTightUptoRow : OpenClaim := { program := "ytgbdcemlnklmoaa", sum := "1994794537cc9544943386efe6a2468596a8cf6c149e73dfcca6790a67e6d9e7", func := "quadrupole/quadrupolelaw06.DriftTight", spec := "driftTight", apart := false, narrowed := true }
def DriftTightUptoSaid : Prop := driftTightUptoRow.holds Try.pinned (OpenSpec.upto driftTightSpec)

/-- 'quadrupolelaw06.DriftTurns', WHERE WHAT IT READS IS OF BULK AT MOST 1048576: true; the input reads as it did. -/
def driftTurnsUptoRow : OpenClaim := { program := "ytgbdcemlnklmoaa", sum := "1994794537cc9544943386efe6a2468596a8cf6c149e73dfcca6790a67e6d9e7", func := "quadrupole/quadrupolelaw06.DriftTurns", spec := "driftTurns", unfollowed := true, recurses := true, apart := false, narrowed := true }
def DriftTurnsUptoSaid : Prop := driftTurnsUptoRow.holds Try.pinned (OpenSpec.upto driftTurnsSpec)

/-- 'quadrupolelaw06.DriftKeeps', WHERE WHAT IT READS IS OF BULK AT MOST 1048576: true; the input reads as it did. -/
def driftKeepsUptoRow : OpenClaim := { program := "ytgbdcemlnklmoaa", sum := "1994794537cc9544943386efe6a2468596a8cf6c149e73dfcca6790a67e6d9e7", func := "quadrupole/quadrupolelaw06.DriftKeeps", spec := "driftKeeps", unfollowed := true, recurses := true, apart := false, narrowed := true }
def DriftKeepsUptoSaid : Prop := driftKeepsUptoRow.holds Try.pinned (OpenSpec.upto driftKeepsSpec)

/-- 'quadrupoletop.TopDrifts', WHERE WHAT IT READS IS OF BULK AT MOST 1048576: true; the input reads as it did. -/
def topDriftsUptoRow : OpenClaim := { program := "ytgbdcemlnklmoaa", sum := "1994794537cc9544943386efe6a2468596a8cf6c149e73dfcca6790a67e6d9e7", func := "quadrupole/quadrupoletop.TopDrifts", spec := "topDrifts", unfollowed := true, recurses := true, apart := false, narrowed := true }
def TopDriftsUptoSaid : Prop := topDriftsUptoRow.holds Try.pinned (OpenSpec.upto topDriftsSpec)

/-- 'quadrupolelaw06.DriftChecks', WHERE WHAT IT READS IS OF BULK AT MOST 1048576: true; the input reads as it did. -/
def driftChecksUptoRow : OpenClaim := { program := "ytgbdcemlnklmoaa", sum := "1994794537cc9544943386efe6a2468596a8cf6c149e73dfcca6790a67e6d9e7", func := "quadrupole/quadrupolelaw06.DriftChecks", spec := "driftChecks", unfollowed := true, recurses := true, apart := false, narrowed := true }
def DriftChecksUptoSaid : Prop := driftChecksUptoRow.holds Try.pinned (OpenSpec.upto driftChecksSpec)

/-- 'quadrupolelaw06.DriftShifts', WHERE WHAT IT READS IS OF BULK AT MOST 1048576: true; the input reads as it did. -/
def driftShiftsUptoRow : OpenClaim := { program := "ytgbdcemlnklmoaa", sum := "1994794537cc9544943386efe6a2468596a8cf6c149e73dfcca6790a67e6d9e7", func := "quadrupole/quadrupolelaw06.DriftShifts", spec := "driftShifts", apart := false, narrowed := true }
def DriftShiftsUptoSaid : Prop := driftShiftsUptoRow.holds Try.pinned (OpenSpec.upto driftShiftsSpec)

/-- 'quadrupolelaw06.DriftWithout', WHERE WHAT IT READS IS OF BULK AT MOST 1048576: true; the input reads as it did. -/
def driftWithoutUptoRow : OpenClaim := { program := "ytgbdcemlnklmoaa", sum := "1994794537cc9544943386efe6a2468596a8cf6c149e73dfcca6790a67e6d9e7", func := "quadrupole/quadrupolelaw06.DriftWithout", spec := "driftWithout", unfollowed := true, recurses := true, apart := false, narrowed := true }
def DriftWithoutUptoSaid : Prop := driftWithoutUptoRow.holds Try.pinned (OpenSpec.upto driftWithoutSpec)

/-- 'quadrupolelaw06.DriftNeedless', WHERE WHAT IT READS IS OF BULK AT MOST 1048576: true; the input reads as it did. -/
def driftNeedlessUptoRow : OpenClaim := { program := "ytgbdcemlnklmoaa", sum := "1994794537cc9544943386efe6a2468596a8cf6c149e73dfcca6790a67e6d9e7", func := "quadrupole/quadrupolelaw06.DriftNeedless", spec := "driftNeedless", apart := false, narrowed := true }
def DriftNeedlessUptoSaid : Prop := driftNeedlessUptoRow.holds Try.pinned (OpenSpec.upto driftNeedlessSpec)

end Rows
end Go.Proofs.Ytgbdcemlnklmoaa
