/-
  No cell of these rows narrows 'for every input' (looked for: loops, veiled, ifaces, maps, wideKeys, modest, calm, conditions, laid).
  DERIVED. THE GIVEN ROWS OF THIS SEAT. 15 by the template 'for every input the law returns true; each argument reads behind the call as it read before'; 0 by the template 'total and deterministic' (their statements: YtplindidegmlkaaTotals.lean).
  GIVEN WITH THE SEED: the statements are not yours to turn. If you find one false, say at which input.
  Laid BY PROGRAM, IN A SANDBOX (cutbox-rows.mjs): the forced cells as the released guide's own fill.sh prints them over the translation 16a2d35135ef9c88… (all of the seat's roots in one cut). By AI agents, Wed Nov 11 2026. No macro, syntax, notation, axiom, sorry.
-/
import Derived.Test.YtplindidegmlkaaChecked
import GoSem.Claim
import GoSem.ClaimJoined
import GoSem.ClaimMapViews
import Derived.JoinedTies
import Derived.KernelRfl
namespace Go.Proofs.Ytplindidegmlkaa
/- THE CELL 'sum', in the pinned program and in every row, IS THE sha256 OF THE DUMP (.gsa) THAT YtplindidegmlkaaProg.lean LOADS. Nothing in Lean hashes anything: it is a label: what it is worth is what the hold of that sum in a sandbox is worth. -/
noncomputable def Try.pinned : Pinned := { name := "ytplindidegmlkaa", sum := "16a2d35135ef9c881356c7444dff3b1ae5dfa9dfd08e1fe1dc261c28071ae9b5", checked := Try.checked }
namespace Rows
def none {H : Type} : Left H := { results := [], args := [] }

/-- 'quadrupoletop.TopBudgets': WHATEVER THE INPUT: true; the input reads as it did. -/
def topBudgetsSpec : ChangeSpec := { name := "topBudgets", fn := fun _ => fun
  | [d1, d2, d3] => { results := [.lit (.bool true)], args := [d1, d2, d3] }
  | _ => none }
def topBudgetsRow : OpenClaim := { program := "ytplindidegmlkaa", sum := "16a2d35135ef9c881356c7444dff3b1ae5dfa9dfd08e1fe1dc261c28071ae9b5", func := "quadrupole/quadrupoletop.TopBudgets", spec := "topBudgets", unfollowed := true, recurses := true, apart := false }
def TopBudgetsSaid : Prop := topBudgetsRow.holds Try.pinned (OpenSpec.ofChange topBudgetsSpec)

/-- ITS FALSE NEIGHBOUR: 'it returns false'. Refute it at one input. -/
def topBudgetsWrong : ChangeSpec := { name := "topBudgets", fn := fun _ => fun
  | [d1, d2, d3] => { results := [.lit (.bool false)], args := [d1, d2, d3] }
  | _ => none }
def TopBudgetsWrongFalsely : Prop := topBudgetsRow.holds Try.pinned (OpenSpec.ofChange topBudgetsWrong)

/-- 'quadrupolelaw08.BudgetChances': WHATEVER THE INPUT: true; the input reads as it did. -/
def budgetChancesSpec : ChangeSpec := { name := "budgetChances", fn := fun _ => fun
  | [d] => { results := [.lit (.bool true)], args := [d] }
  | _ => none }
def budgetChancesRow : OpenClaim := { program := "ytplindidegmlkaa", sum := "16a2d35135ef9c881356c7444dff3b1ae5dfa9dfd08e1fe1dc261c28071ae9b5", func := "quadrupole/quadrupolelaw08.BudgetChances", spec := "budgetChances", unfollowed := true, recurses := true, apart := false }
def BudgetChancesSaid : Prop := budgetChancesRow.holds Try.pinned (OpenSpec.ofChange budgetChancesSpec)

/-- ITS FALSE NEIGHBOUR: 'it returns false'. Refute it at one input. -/
def budgetChancesWrong : ChangeSpec := { name := "budgetChances", fn := fun _ => fun
  | [d] => { results := [.lit (.bool false)], args := [d] }
  | _ => none }
def BudgetChancesWrongFalsely : Prop := budgetChancesRow.holds Try.pinned (OpenSpec.ofChange budgetChancesWrong)

/-- 'quadrupolelaw08.BudgetCloses': WHATEVER THE INPUT: true; the input reads as it did. -/
def budgetClosesSpec : ChangeSpec := { name := "budgetCloses", fn := fun _ => fun
  | [d1, d2] => { results := [.lit (.bool true)], args := [d1, d2] }
  | _ => none }
def budgetClosesRow : OpenClaim := { program := "ytplindidegmlkaa", sum := "16a2d35135ef9c881356c7444dff3b1ae5dfa9dfd08e1fe1dc261c28071ae9b5", func := "quadrupole/quadrupolelaw08.BudgetCloses", spec := "budgetCloses", unfollowed := true, recurses := true, apart := false }
def BudgetClosesSaid : Prop := budgetClosesRow.holds Try.pinned (OpenSpec.ofChange budgetClosesSpec)

/-- ITS FALSE NEIGHBOUR: 'it returns false'. Refute it at one input. -/
def budgetClosesWrong : ChangeSpec := { name := "budgetCloses", fn := fun _ => fun
  | [d1, d2] => { results := [.lit (.bool false)], args := [d1, d2] }
  | _ => none }
def BudgetClosesWrongFalsely : Prop := budgetClosesRow.holds Try.pinned (OpenSpec.ofChange budgetClosesWrong)

/-- 'quadrupolelaw08.BudgetShares': WHATEVER THE INPUT: true; the input reads as it did. -/
def budgetSharesSpec : ChangeSpec := { name := "budgetShares", fn := fun _ => fun
  | [d] => { results := [.lit (.bool true)], args := [d] }
  | _ => none }
def budgetSharesRow : OpenClaim := { program := "ytplindidegmlkaa", sum := "16a2d35135ef9c881356c7444dff3b1ae5dfa9dfd08e1fe1dc261c28071ae9b5", func := "quadrupole/quadrupolelaw08.BudgetShares", spec := "budgetShares", unfollowed := true, recurses := true, apart := false }
def BudgetSharesSaid : Prop := budgetSharesRow.holds Try.pinned (OpenSpec.ofChange budgetSharesSpec)

/-- ITS FALSE NEIGHBOUR: 'it returns false'. Refute it at one input. -/
def budgetSharesWrong : ChangeSpec := { name := "budgetShares", fn := fun _ => fun
  | [d] => { results := [.lit (.bool false)], args := [d] }
  | _ => none }
def BudgetSharesWrongFalsely : Prop := budgetSharesRow.holds Try.pinned (OpenSpec.ofChange budgetSharesWrong)

/-- 'quadrupolelaw08.BudgetScales': WHATEVER THE INPUT: true; the input reads as it did. -/
def budgetScalesSpec : ChangeSpec := { name := "budgetScales", fn := fun _ => fun
  | [d1, d2] => { results := [.lit (.bool true)], args := [d1, d2] }
  | _ => none }
def budgetScalesRow : OpenClaim := { program := "ytplindidegmlkaa", sum := "16a2d35135ef9c881356c7444dff3b1ae5dfa9dfd08e1fe1dc261c28071ae9b5", func := "quadrupole/quadrupolelaw08.BudgetScales", spec := "budgetScales", unfollowed := true, recurses := true, apart := false }
def BudgetScalesSaid : Prop := budgetScalesRow.holds Try.pinned (OpenSpec.ofChange budgetScalesSpec)

/-- ITS FALSE NEIGHBOUR: 'it returns false'. Refute it at one input. -/
def budgetScalesWrong : ChangeSpec := { name := "budgetScales", fn := fun _ => fun
  | [d1, d2] => { results := [.lit (.bool false)], args := [d1, d2] }
  | _ => none }
def BudgetScalesWrongFalsely : Prop := budgetScalesRow.holds Try.pinned (OpenSpec.ofChange budgetScalesWrong)

/-- 'quadrupolelaw08.BudgetBest': WHATEVER THE INPUT: true; the input reads as it did. -/
def budgetBestSpec : ChangeSpec := { name := "budgetBest", fn := fun _ => fun
  | [d1, d2, d3] => { results := [.lit (.bool true)], args := [d1, d2, d3] }
  | _ => none }
def budgetBestRow : OpenClaim := { program := "ytplindidegmlkaa", sum := "16a2d35135ef9c881356c7444dff3b1ae5dfa9dfd08e1fe1dc261c28071ae9b5", func := "quadrupole/quadrupolelaw08.BudgetBest", spec := "budgetBest", unfollowed := true, recurses := true, apart := false }
def BudgetBestSaid : Prop := budgetBestRow.holds Try.pinned (OpenSpec.ofChange budgetBestSpec)

/-- ITS FALSE NEIGHBOUR: 'it returns false'. Refute it at one input. -/
def budgetBestWrong : ChangeSpec := { name := "budgetBest", fn := fun _ => fun
  | [d1, d2, d3] => { results := [.lit (.bool false)], args := [d1, d2, d3] }
  | _ => none }
def BudgetBestWrongFalsely : Prop := budgetBestRow.holds Try.pinned (OpenSpec.ofChange budgetBestWrong)

/-- 'quadrupolelaw08.BudgetPays': WHATEVER THE INPUT: true; the input reads as it did. -/
def budgetPaysSpec : ChangeSpec := { name := "budgetPays", fn := fun _ => fun
  | [d1, d2, d3] => { results := [.lit (.bool true)], args := [d1, d2, d3] }
  | _ => none }
def budgetPaysRow : OpenClaim := { program := "ytplindidegmlkaa", sum := "16a2d35135ef9c881356c7444dff3b1ae5dfa9dfd08e1fe1dc261c28071ae9b5", func := "quadrupole/quadrupolelaw08.BudgetPays", spec := "budgetPays", unfollowed := true, recurses := true, apart := false }
def BudgetPaysSaid : Prop := budgetPaysRow.holds Try.pinned (OpenSpec.ofChange budgetPaysSpec)

/-- ITS FALSE NEIGHBOUR: 'it returns false'. Refute it at one input. -/
def budgetPaysWrong : ChangeSpec := { name := "budgetPays", fn := fun _ => fun
  | [d1, d2, d3] => { results := [.lit (.bool false)], args := [d1, d2, d3] }
  | _ => none }
def BudgetPaysWrongFalsely : Prop := budgetPaysRow.holds Try.pinned (OpenSpec.ofChange budgetPaysWrong)

/-- 'quadrupolelaw08.BudgetWith': WHATEVER THE INPUT: true; the input reads as it did. -/
def budgetWithSpec : ChangeSpec := { name := "budgetWith", fn := fun _ => fun
  | [d1, d2, d3] => { results := [.lit (.bool true)], args := [d1, d2, d3] }
  | _ => none }
def budgetWithRow : OpenClaim := { program := "ytplindidegmlkaa", sum := "16a2d35135ef9c881356c7444dff3b1ae5dfa9dfd08e1fe1dc261c28071ae9b5", func := "quadrupole/quadrupolelaw08.BudgetWith", spec := "budgetWith", unfollowed := true, recurses := true, apart := false }
def BudgetWithSaid : Prop := budgetWithRow.holds Try.pinned (OpenSpec.ofChange budgetWithSpec)

/-- ITS FALSE NEIGHBOUR: 'it returns false'. Refute it at one input. -/
def budgetWithWrong : ChangeSpec := { name := "budgetWith", fn := fun _ => fun
  | [d1, d2, d3] => { results := [.lit (.bool false)], args := [d1, d2, d3] }
  | _ => none }
def BudgetWithWrongFalsely : Prop := budgetWithRow.holds Try.pinned (OpenSpec.ofChange budgetWithWrong)

/-- 'quadrupolelaw08.BudgetRooms': WHATEVER THE INPUT: true; the input reads as it did. -/
def budgetRoomsSpec : ChangeSpec := { name := "budgetRooms", fn := fun _ => fun
  | [d1, d2] => { results := [.lit (.bool true)], args := [d1, d2] }
  | _ => none }
def budgetRoomsRow : OpenClaim := { program := "ytplindidegmlkaa", sum := "16a2d35135ef9c881356c7444dff3b1ae5dfa9dfd08e1fe1dc261c28071ae9b5", func := "quadrupole/quadrupolelaw08.BudgetRooms", spec := "budgetRooms", unfollowed := true, recurses := true, apart := false }
def BudgetRoomsSaid : Prop := budgetRoomsRow.holds Try.pinned (OpenSpec.ofChange budgetRoomsSpec)

/-- ITS FALSE NEIGHBOUR: 'it returns false'. Refute it at one input. -/
def budgetRoomsWrong : ChangeSpec := { name := "budgetRooms", fn := fun _ => fun
  | [d1, d2] => { results := [.lit (.bool false)], args := [d1, d2] }
  | _ => none }
def BudgetRoomsWrongFalsely : Prop := budgetRoomsRow.holds Try.pinned (OpenSpec.ofChange budgetRoomsWrong)

/-- 'quadrupolelaw08.BudgetAllows': WHATEVER THE INPUT: true; the input reads as it did. -/
def budgetAllowsSpec : ChangeSpec := { name := "budgetAllows", fn := fun _ => fun
  | [d1, d2, d3] => { results := [.lit (.bool true)], args := [d1, d2, d3] }
  | _ => none }
def budgetAllowsRow : OpenClaim := { program := "ytplindidegmlkaa", sum := "16a2d35135ef9c881356c7444dff3b1ae5dfa9dfd08e1fe1dc261c28071ae9b5", func := "quadrupole/quadrupolelaw08.BudgetAllows", spec := "budgetAllows", unfollowed := true, recurses := true, apart := false }
def BudgetAllowsSaid : Prop := budgetAllowsRow.holds Try.pinned (OpenSpec.ofChange budgetAllowsSpec)

/-- ITS FALSE NEIGHBOUR: 'it returns false'. Refute it at one input. -/
def budgetAllowsWrong : ChangeSpec := { name := "budgetAllows", fn := fun _ => fun
  | [d1, d2, d3] => { results := [.lit (.bool false)], args := [d1, d2, d3] }
  | _ => none }
def BudgetAllowsWrongFalsely : Prop := budgetAllowsRow.holds Try.pinned (OpenSpec.ofChange budgetAllowsWrong)

/-- 'quadrupolelaw08.BudgetWorst': WHATEVER THE INPUT: true; the input reads as it did. -/
def budgetWorstSpec : ChangeSpec := { name := "budgetWorst", fn := fun _ => fun
  | [d] => { results := [.lit (.bool true)], args := [d] }
  | _ => none }
def budgetWorstRow : OpenClaim := { program := "ytplindidegmlkaa", sum := "16a2d35135ef9c881356c7444dff3b1ae5dfa9dfd08e1fe1dc261c28071ae9b5", func := "quadrupole/quadrupolelaw08.BudgetWorst", spec := "budgetWorst", unfollowed := true, recurses := true, apart := false }
def BudgetWorstSaid : Prop := budgetWorstRow.holds Try.pinned (OpenSpec.ofChange budgetWorstSpec)

/-- ITS FALSE NEIGHBOUR: 'it returns false'. Refute it at one input. -/
def budgetWorstWrong : ChangeSpec := { name := "budgetWorst", fn := fun _ => fun
  | [d] => { results := [.lit (.bool false)], args := [d] }
  | _ => none }
def BudgetWorstWrongFalsely : Prop := budgetWorstRow.holds Try.pinned (OpenSpec.ofChange budgetWorstWrong)

/-- 'quadrupolelaw08.BudgetWithout': WHATEVER THE INPUT: true; the input reads as it did. -/
def budgetWithoutSpec : ChangeSpec := { name := "budgetWithout", fn := fun _ => fun
  | [d1, d2] => { results := [.lit (.bool true)], args := [d1, d2] }
  | _ => none }
def budgetWithoutRow : OpenClaim := { program := "ytplindidegmlkaa", sum := "16a2d35135ef9c881356c7444dff3b1ae5dfa9dfd08e1fe1dc261c28071ae9b5", func := "quadrupole/quadrupolelaw08.BudgetWithout", spec := "budgetWithout", unfollowed := true, recurses := true, apart := false }
def BudgetWithoutSaid : Prop := budgetWithoutRow.holds Try.pinned (OpenSpec.ofChange budgetWithoutSpec)

/-- ITS FALSE NEIGHBOUR: 'it returns false'. Refute it at one input. -/
def budgetWithoutWrong : ChangeSpec := { name := "budgetWithout", fn := fun _ => fun
  | [d1, d2] => { results := [.lit (.bool false)], args := [d1, d2] }
  | _ => none }
def BudgetWithoutWrongFalsely : Prop := budgetWithoutRow.holds Try.pinned (OpenSpec.ofChange budgetWithoutWrong)

/-- 'quadrupolelaw08.BudgetChecks': WHATEVER THE INPUT: true; the input reads as it did. -/
def budgetChecksSpec : ChangeSpec := { name := "budgetChecks", fn := fun _ => fun
  | [d1, d2, d3] => { results := [.lit (.bool true)], args := [d1, d2, d3] }
  | _ => none }
def budgetChecksRow : OpenClaim := { program := "ytplindidegmlkaa", sum := "16a2d35135ef9c881356c7444dff3b1ae5dfa9dfd08e1fe1dc261c28071ae9b5", func := "quadrupole/quadrupolelaw08.BudgetChecks", spec := "budgetChecks", unfollowed := true, recurses := true, apart := false }
def BudgetChecksSaid : Prop := budgetChecksRow.holds Try.pinned (OpenSpec.ofChange budgetChecksSpec)

/-- ITS FALSE NEIGHBOUR: 'it returns false'. Refute it at one input. -/
def budgetChecksWrong : ChangeSpec := { name := "budgetChecks", fn := fun _ => fun
  | [d1, d2, d3] => { results := [.lit (.bool false)], args := [d1, d2, d3] }
  | _ => none }
def BudgetChecksWrongFalsely : Prop := budgetChecksRow.holds Try.pinned (OpenSpec.ofChange budgetChecksWrong)

/-- 'quadrupolelaw08.BudgetJoins': WHATEVER THE INPUT: true; the input reads as it did. -/
def budgetJoinsSpec : ChangeSpec := { name := "budgetJoins", fn := fun _ => fun
  | [d1, d2] => { results := [.lit (.bool true)], args := [d1, d2] }
  | _ => none }
def budgetJoinsRow : OpenClaim := { program := "ytplindidegmlkaa", sum := "16a2d35135ef9c881356c7444dff3b1ae5dfa9dfd08e1fe1dc261c28071ae9b5", func := "quadrupole/quadrupolelaw08.BudgetJoins", spec := "budgetJoins", unfollowed := true, recurses := true, apart := false }
def BudgetJoinsSaid : Prop := budgetJoinsRow.holds Try.pinned (OpenSpec.ofChange budgetJoinsSpec)

/-- ITS FALSE NEIGHBOUR: 'it returns false'. Refute it at one input. -/
def budgetJoinsWrong : ChangeSpec := { name := "budgetJoins", fn := fun _ => fun
  | [d1, d2] => { results := [.lit (.bool false)], args := [d1, d2] }
  | _ => none }
def BudgetJoinsWrongFalsely : Prop := budgetJoinsRow.holds Try.pinned (OpenSpec.ofChange budgetJoinsWrong)

/-- 'quadrupolelaw08.BudgetCheapest': WHATEVER THE INPUT: true; the input reads as it did. -/
def budgetCheapestSpec : ChangeSpec := { name := "budgetCheapest", fn := fun _ => fun
  | [d1, d2, d3] => { results := [.lit (.bool true)], args := [d1, d2, d3] }
  | _ => none }
def budgetCheapestRow : OpenClaim := { program := "ytplindidegmlkaa", sum := "16a2d35135ef9c881356c7444dff3b1ae5dfa9dfd08e1fe1dc261c28071ae9b5", func := "quadrupole/quadrupolelaw08.BudgetCheapest", spec := "budgetCheapest", unfollowed := true, recurses := true, apart := false }
def BudgetCheapestSaid : Prop := budgetCheapestRow.holds Try.pinned (OpenSpec.ofChange budgetCheapestSpec)

/-- ITS FALSE NEIGHBOUR: 'it returns false'. Refute it at one input. -/
def budgetCheapestWrong : ChangeSpec := { name := "budgetCheapest", fn := fun _ => fun
  | [d1, d2, d3] => { results := [.lit (.bool false)], args := [d1, d2, d3] }
  | _ => none }
def BudgetCheapestWrongFalsely : Prop := budgetCheapestRow.holds Try.pinned (OpenSpec.ofChange budgetCheapestWrong)

/- THE SECOND FORM. 'bulk': how many values and letters a reading holds, each counted each time it is reached (what is shared counts as often as it is met; a slice's spare places count too). A statement '..UptoSaid' is the law's where the arguments, and the package variables that the reading takes, are together of bulk at most 1048576: NARROWER than '..Said'. Prove '..Said' where nothing that the law and all that it calls make is longer than what came in: it says more and counts as full. Else prove '..UptoSaid'. A law counts once. -/
mutual
def uptoBulk {H : Type} : DataW H → Nat
  | .lit (.string bytes) => bytes.length + 1
  | .lit _ => 1
  | .nil => 1
  | .ptr d => uptoBulk d + 1
  | .slice elems spare => uptoBulkAll elems + uptoBulkAll spare + 1
  | .agg parts => uptoBulkAll parts + 1
  | .iface _ d => uptoBulk d + 1
  | .map entries => uptoBulkEntries entries + 1
  | .held _ => 1
def uptoBulkAll {H : Type} : List (DataW H) → Nat
  | [] => 0
  | d :: r => uptoBulk d + uptoBulkAll r
def uptoBulkEntries {H : Type} : List (Lit × DataW H) → Nat
  | [] => 0
  | x :: r => uptoBulkEntry x + uptoBulkEntries r
def uptoBulkEntry {H : Type} : Lit × DataW H → Nat
  | (.string bytes, d) => bytes.length + uptoBulk d + 1
  | (_, d) => uptoBulk d + 1
 end
def uptoSmall : (H : Type) → List (DataW H) → Bool := fun _ ds => decide (uptoBulkAll ds ≤ 1048576)
def OpenSpec.upto (s : _root_.Go.ChangeSpec) : _root_.Go.OpenSpec := { _root_.Go.OpenSpec.ofChange s with cond := some uptoSmall }

/-- 'quadrupoletop.TopBudgets', WHERE WHAT IT READS IS OF BULK AT MOST 1048576: true; the input reads as it did. -/
def topBudgetsUptoRow : OpenClaim := { program := "ytplindidegmlkaa", sum := "16a2d35135ef9c881356c7444dff3b1ae5dfa9dfd08e1fe1dc261c28071ae9b5", func := "quadrupole/quadrupoletop.TopBudgets", spec := "topBudgets", unfollowed := true, recurses := true, apart := false, narrowed := true }
def TopBudgetsUptoSaid : Prop := topBudgetsUptoRow.holds Try.pinned (OpenSpec.upto topBudgetsSpec)

/-- 'quadrupolelaw08.BudgetChances', WHERE WHAT IT READS IS OF BULK AT MOST 1048576: true; the input reads as it did. -/
def budgetChancesUptoRow : OpenClaim := { program := "ytplindidegmlkaa", sum := "16a2d35135ef9c881356c7444dff3b1ae5dfa9dfd08e1fe1dc261c28071ae9b5", func := "quadrupole/quadrupolelaw08.BudgetChances", spec := "budgetChances", unfollowed := true, recurses := true, apart := false, narrowed := true }
def BudgetChancesUptoSaid : Prop := budgetChancesUptoRow.holds Try.pinned (OpenSpec.upto budgetChancesSpec)

/-- 'quadrupolelaw08.BudgetCloses', WHERE WHAT IT READS IS OF BULK AT MOST 1048576: true; the input reads as it did. -/
def budgetClosesUptoRow : OpenClaim := { program := "ytplindidegmlkaa", sum := "16a2d35135ef9c881356c7444dff3b1ae5dfa9dfd08e1fe1dc261c28071ae9b5", func := "quadrupole/quadrupolelaw08.BudgetCloses", spec := "budgetCloses", unfollowed := true, recurses := true, apart := false, narrowed := true }
def BudgetClosesUptoSaid : Prop := budgetClosesUptoRow.holds Try.pinned (OpenSpec.upto budgetClosesSpec)

/-- 'quadrupolelaw08.BudgetShares', WHERE WHAT IT READS IS OF BULK AT MOST 1048576: true; the input reads as it did. -/
def budgetSharesUptoRow : OpenClaim := { program := "ytplindidegmlkaa", sum := "16a2d35135ef9c881356c7444dff3b1ae5dfa9dfd08e1fe1dc261c28071ae9b5", func := "quadrupole/quadrupolelaw08.BudgetShares", spec := "budgetShares", unfollowed := true, recurses := true, apart := false, narrowed := true }
def BudgetSharesUptoSaid : Prop := budgetSharesUptoRow.holds Try.pinned (OpenSpec.upto budgetSharesSpec)

/-- 'quadrupolelaw08.BudgetScales', WHERE WHAT IT READS IS OF BULK AT MOST 1048576: true; the input reads as it did. -/
def budgetScalesUptoRow : OpenClaim := { program := "ytplindidegmlkaa", sum := "16a2d35135ef9c881356c7444dff3b1ae5dfa9dfd08e1fe1dc261c28071ae9b5", func := "quadrupole/quadrupolelaw08.BudgetScales", spec := "budgetScales", unfollowed := true, recurses := true, apart := false, narrowed := true }
def BudgetScalesUptoSaid : Prop := budgetScalesUptoRow.holds Try.pinned (OpenSpec.upto budgetScalesSpec)

/-- 'quadrupolelaw08.BudgetBest', WHERE WHAT IT READS IS OF BULK AT MOST 1048576: true; the input reads as it did. -/
def budgetBestUptoRow : OpenClaim := { program := "ytplindidegmlkaa", sum := "16a2d35135ef9c881356c7444dff3b1ae5dfa9dfd08e1fe1dc261c28071ae9b5", func := "quadrupole/quadrupolelaw08.BudgetBest", spec := "budgetBest", unfollowed := true, recurses := true, apart := false, narrowed := true }
def BudgetBestUptoSaid : Prop := budgetBestUptoRow.holds Try.pinned (OpenSpec.upto budgetBestSpec)

/-- 'quadrupolelaw08.BudgetPays', WHERE WHAT IT READS IS OF BULK AT MOST 1048576: true; the input reads as it did. -/
def budgetPaysUptoRow : OpenClaim := { program := "ytplindidegmlkaa", sum := "16a2d35135ef9c881356c7444dff3b1ae5dfa9dfd08e1fe1dc261c28071ae9b5", func := "quadrupole/quadrupolelaw08.BudgetPays", spec := "budgetPays", unfollowed := true, recurses := true, apart := false, narrowed := true }
def BudgetPaysUptoSaid : Prop := budgetPaysUptoRow.holds Try.pinned (OpenSpec.upto budgetPaysSpec)

/-- 'quadrupolelaw08.BudgetWith', WHERE WHAT IT READS IS OF BULK AT MOST 1048576: true; the input reads as it did. -/
def budgetWithUptoRow : OpenClaim := { program := "ytplindidegmlkaa", sum := "16a2d35135ef9c881356c7444dff3b1ae5dfa9dfd08e1fe1dc261c28071ae9b5", func := "quadrupole/quadrupolelaw08.BudgetWith", spec := "budgetWith", unfollowed := true, recurses := true, apart := false, narrowed := true }
def BudgetWithUptoSaid : Prop := budgetWithUptoRow.holds Try.pinned (OpenSpec.upto budgetWithSpec)

/-- 'quadrupolelaw08.BudgetRooms', WHERE WHAT IT READS IS OF BULK AT MOST 1048576: true; the input reads as it did. -/
def budgetRoomsUptoRow : OpenClaim := { program := "ytplindidegmlkaa", sum := "16a2d35135ef9c881356c7444dff3b1ae5dfa9dfd08e1fe1dc261c28071ae9b5", func := "quadrupole/quadrupolelaw08.BudgetRooms", spec := "budgetRooms", unfollowed := true, recurses := true, apart := false, narrowed := true }
def BudgetRoomsUptoSaid : Prop := budgetRoomsUptoRow.holds Try.pinned (OpenSpec.upto budgetRoomsSpec)

/-- 'quadrupolelaw08.BudgetAllows', WHERE WHAT IT READS IS OF BULK AT MOST 1048576: true; the input reads as it did. -/
def budgetAllowsUptoRow : OpenClaim := { program := "ytplindidegmlkaa", sum := "16a2d35135ef9c881356c7444dff3b1ae5dfa9dfd08e1fe1dc261c28071ae9b5", func := "quadrupole/quadrupolelaw08.BudgetAllows", spec := "budgetAllows", unfollowed := true, recurses := true, apart := false, narrowed := true }
def BudgetAllowsUptoSaid : Prop := budgetAllowsUptoRow.holds Try.pinned (OpenSpec.upto budgetAllowsSpec)

/-- 'quadrupolelaw08.BudgetWorst', WHERE WHAT IT READS IS OF BULK AT MOST 1048576: true; the input reads as it did. -/
def budgetWorstUptoRow : OpenClaim := { program := "ytplindidegmlkaa", sum := "16a2d35135ef9c881356c7444dff3b1ae5dfa9dfd08e1fe1dc261c28071ae9b5", func := "quadrupole/quadrupolelaw08.BudgetWorst", spec := "budgetWorst", unfollowed := true, recurses := true, apart := false, narrowed := true }
def BudgetWorstUptoSaid : Prop := budgetWorstUptoRow.holds Try.pinned (OpenSpec.upto budgetWorstSpec)

/-- 'quadrupolelaw08.BudgetWithout', WHERE WHAT IT READS IS OF BULK AT MOST 1048576: true; the input reads as it did. -/
def budgetWithoutUptoRow : OpenClaim := { program := "ytplindidegmlkaa", sum := "16a2d35135ef9c881356c7444dff3b1ae5dfa9dfd08e1fe1dc261c28071ae9b5", func := "quadrupole/quadrupolelaw08.BudgetWithout", spec := "budgetWithout", unfollowed := true, recurses := true, apart := false, narrowed := true }
def BudgetWithoutUptoSaid : Prop := budgetWithoutUptoRow.holds Try.pinned (OpenSpec.upto budgetWithoutSpec)

/-- 'quadrupolelaw08.BudgetChecks', WHERE WHAT IT READS IS OF BULK AT MOST 1048576: true; the input reads as it did. -/
def budgetChecksUptoRow : OpenClaim := { program := "ytplindidegmlkaa", sum := "16a2d35135ef9c881356c7444dff3b1ae5dfa9dfd08e1fe1dc261c28071ae9b5", func := "quadrupole/quadrupolelaw08.BudgetChecks", spec := "budgetChecks", unfollowed := true, recurses := true, apart := false, narrowed := true }
def BudgetChecksUptoSaid : Prop := budgetChecksUptoRow.holds Try.pinned (OpenSpec.upto budgetChecksSpec)

/-- 'quadrupolelaw08.BudgetJoins', WHERE WHAT IT READS IS OF BULK AT MOST 1048576: true; the input reads as it did. -/
def budgetJoinsUptoRow : OpenClaim := { program := "ytplindidegmlkaa", sum := "16a2d35135ef9c881356c7444dff3b1ae5dfa9dfd08e1fe1dc261c28071ae9b5", func := "quadrupole/quadrupolelaw08.BudgetJoins", spec := "budgetJoins", unfollowed := true, recurses := true, apart := false, narrowed := true }
def BudgetJoinsUptoSaid : Prop := budgetJoinsUptoRow.holds Try.pinned (OpenSpec.upto budgetJoinsSpec)

/-- 'quadrupolelaw08.BudgetCheapest', WHERE WHAT IT READS IS OF BULK AT MOST 1048576: true; the input reads as it did. -/
def budgetCheapestUptoRow : OpenClaim := { program := "ytplindidegmlkaa", sum := "16a2d35135ef9c881356c7444dff3b1ae5dfa9dfd08e1fe1dc261c28071ae9b5", func := "quadrupole/quadrupolelaw08.BudgetCheapest", spec := "budgetCheapest", unfollowed := true, recurses := true, apart := false, narrowed := true }
def BudgetCheapestUptoSaid : Prop := budgetCheapestUptoRow.holds Try.pinned (OpenSpec.upto budgetCheapestSpec)

end Rows
end Go.Proofs.Ytplindidegmlkaa
