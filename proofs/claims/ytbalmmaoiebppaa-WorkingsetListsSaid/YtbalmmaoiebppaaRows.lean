/-
  No cell of these rows narrows 'for every input' (looked for: loops, veiled, ifaces, maps, wideKeys, modest, calm, conditions, laid).
  DERIVED. THE GIVEN ROWS OF THIS SEAT. 8 by the template 'for every input the law returns true; each argument reads behind the call as it read before'; 0 by the template 'total and deterministic' (their statements: YtbalmmaoiebppaaTotals.lean).
  GIVEN WITH THE SEED: the statements are not yours to turn. If you find one false, say at which input.
  Laid BY PROGRAM, IN A SANDBOX (cutbox-rows.mjs): the forced cells as the released guide's own fill.sh prints them over the translation 6d2fbf9c51c7201a… (all of the seat's roots in one cut). By AI agents, Wed Nov 11 2026. No macro, syntax, notation, axiom, sorry.
-/
import Derived.Test.YtbalmmaoiebppaaChecked
import GoSem.Claim
import GoSem.ClaimJoined
import GoSem.ClaimMapViews
import Derived.JoinedTies
import Derived.KernelRfl
namespace Go.Proofs.Ytbalmmaoiebppaa
/- THE CELL 'sum', in the pinned program and in every row, IS THE sha256 OF THE DUMP (.gsa) THAT YtbalmmaoiebppaaProg.lean LOADS. Nothing in Lean hashes anything: it is a label: what it is worth is what the hold of that sum in a sandbox is worth. -/
noncomputable def Try.pinned : Pinned := { name := "ytbalmmaoiebppaa", sum := "6d2fbf9c51c7201aa46b9f87b11403be51b6255d6f1558317c5e7bcbc85af370", checked := Try.checked }
namespace Rows
def none {H : Type} : Left H := { results := [], args := [] }

/-- 'estoverslaw38.WorkingsetDistances': WHATEVER THE INPUT: true; the input reads as it did. -/
def workingsetDistancesSpec : ChangeSpec := { name := "workingsetDistances", fn := fun _ => fun
  | [d1, d2, d3] => { results := [.lit (.bool true)], args := [d1, d2, d3] }
  | _ => none }
def workingsetDistancesRow : OpenClaim := { program := "ytbalmmaoiebppaa", sum := "6d2fbf9c51c7201aa46b9f87b11403be51b6255d6f1558317c5e7bcbc85af370", func := "estovers/estoverslaw38.WorkingsetDistances", spec := "workingsetDistances", unfollowed := true, recurses := true, apart := false }
def WorkingsetDistancesSaid : Prop := workingsetDistancesRow.holds Try.pinned (OpenSpec.ofChange workingsetDistancesSpec)

/-- ITS FALSE NEIGHBOUR: 'it returns false'. Refute it at one input. -/
def workingsetDistancesWrong : ChangeSpec := { name := "workingsetDistances", fn := fun _ => fun
  | [d1, d2, d3] => { results := [.lit (.bool false)], args := [d1, d2, d3] }
  | _ => none }
def WorkingsetDistancesWrongFalsely : Prop := workingsetDistancesRow.holds Try.pinned (OpenSpec.ofChange workingsetDistancesWrong)

/-- 'estoverslaw38.WorkingsetRefaults': WHATEVER THE INPUT: true; the input reads as it did. -/
def workingsetRefaultsSpec : ChangeSpec := { name := "workingsetRefaults", fn := fun _ => fun
  | [d1, d2] => { results := [.lit (.bool true)], args := [d1, d2] }
  | _ => none }
def workingsetRefaultsRow : OpenClaim := { program := "ytbalmmaoiebppaa", sum := "6d2fbf9c51c7201aa46b9f87b11403be51b6255d6f1558317c5e7bcbc85af370", func := "estovers/estoverslaw38.WorkingsetRefaults", spec := "workingsetRefaults", unfollowed := true, recurses := true, apart := false }
def WorkingsetRefaultsSaid : Prop := workingsetRefaultsRow.holds Try.pinned (OpenSpec.ofChange workingsetRefaultsSpec)

/-- ITS FALSE NEIGHBOUR: 'it returns false'. Refute it at one input. -/
def workingsetRefaultsWrong : ChangeSpec := { name := "workingsetRefaults", fn := fun _ => fun
  | [d1, d2] => { results := [.lit (.bool false)], args := [d1, d2] }
  | _ => none }
def WorkingsetRefaultsWrongFalsely : Prop := workingsetRefaultsRow.holds Try.pinned (OpenSpec.ofChange workingsetRefaultsWrong)

/-- 'estoverslaw38.WorkingsetLists': WHATEVER THE INPUT: true; the input reads as it did. -/
def workingsetListsSpec : ChangeSpec := { name := "workingsetLists", fn := fun _ => fun
  | [d1, d2, d3] => { results := [.lit (.bool true)], args := [d1, d2, d3] }
  | _ => none }
def workingsetListsRow : OpenClaim := { program := "ytbalmmaoiebppaa", sum := "6d2fbf9c51c7201aa46b9f87b11403be51b6255d6f1558317c5e7bcbc85af370", func := "estovers/estoverslaw38.WorkingsetLists", spec := "workingsetLists", unfollowed := true, recurses := true, apart := false }
def WorkingsetListsSaid : Prop := workingsetListsRow.holds Try.pinned (OpenSpec.ofChange workingsetListsSpec)

/-- ITS FALSE NEIGHBOUR: 'it returns false'. Refute it at one input. -/
def workingsetListsWrong : ChangeSpec := { name := "workingsetLists", fn := fun _ => fun
  | [d1, d2, d3] => { results := [.lit (.bool false)], args := [d1, d2, d3] }
  | _ => none }
def WorkingsetListsWrongFalsely : Prop := workingsetListsRow.holds Try.pinned (OpenSpec.ofChange workingsetListsWrong)

/-- 'estoverslaw38.WorkingsetEstimates': WHATEVER THE INPUT: true; the input reads as it did. -/
def workingsetEstimatesSpec : ChangeSpec := { name := "workingsetEstimates", fn := fun _ => fun
  | [d] => { results := [.lit (.bool true)], args := [d] }
  | _ => none }
def workingsetEstimatesRow : OpenClaim := { program := "ytbalmmaoiebppaa", sum := "6d2fbf9c51c7201aa46b9f87b11403be51b6255d6f1558317c5e7bcbc85af370", func := "estovers/estoverslaw38.WorkingsetEstimates", spec := "workingsetEstimates", unfollowed := true, recurses := true, apart := false }
def WorkingsetEstimatesSaid : Prop := workingsetEstimatesRow.holds Try.pinned (OpenSpec.ofChange workingsetEstimatesSpec)

/-- ITS FALSE NEIGHBOUR: 'it returns false'. Refute it at one input. -/
def workingsetEstimatesWrong : ChangeSpec := { name := "workingsetEstimates", fn := fun _ => fun
  | [d] => { results := [.lit (.bool false)], args := [d] }
  | _ => none }
def WorkingsetEstimatesWrongFalsely : Prop := workingsetEstimatesRow.holds Try.pinned (OpenSpec.ofChange workingsetEstimatesWrong)

/-- 'estoverslaw38.WorkingsetEvicts': WHATEVER THE INPUT: true; the input reads as it did. -/
def workingsetEvictsSpec : ChangeSpec := { name := "workingsetEvicts", fn := fun _ => fun
  | [d1, d2] => { results := [.lit (.bool true)], args := [d1, d2] }
  | _ => none }
def workingsetEvictsRow : OpenClaim := { program := "ytbalmmaoiebppaa", sum := "6d2fbf9c51c7201aa46b9f87b11403be51b6255d6f1558317c5e7bcbc85af370", func := "estovers/estoverslaw38.WorkingsetEvicts", spec := "workingsetEvicts", unfollowed := true, recurses := true, apart := false }
def WorkingsetEvictsSaid : Prop := workingsetEvictsRow.holds Try.pinned (OpenSpec.ofChange workingsetEvictsSpec)

/-- ITS FALSE NEIGHBOUR: 'it returns false'. Refute it at one input. -/
def workingsetEvictsWrong : ChangeSpec := { name := "workingsetEvicts", fn := fun _ => fun
  | [d1, d2] => { results := [.lit (.bool false)], args := [d1, d2] }
  | _ => none }
def WorkingsetEvictsWrongFalsely : Prop := workingsetEvictsRow.holds Try.pinned (OpenSpec.ofChange workingsetEvictsWrong)

/-- 'estoverslaw38.WorkingsetEnough': WHATEVER THE INPUT: true; the input reads as it did. -/
def workingsetEnoughSpec : ChangeSpec := { name := "workingsetEnough", fn := fun _ => fun
  | [d1, d2, d3] => { results := [.lit (.bool true)], args := [d1, d2, d3] }
  | _ => none }
def workingsetEnoughRow : OpenClaim := { program := "ytbalmmaoiebppaa", sum := "6d2fbf9c51c7201aa46b9f87b11403be51b6255d6f1558317c5e7bcbc85af370", func := "estovers/estoverslaw38.WorkingsetEnough", spec := "workingsetEnough", unfollowed := true, recurses := true, apart := false }
def WorkingsetEnoughSaid : Prop := workingsetEnoughRow.holds Try.pinned (OpenSpec.ofChange workingsetEnoughSpec)

/-- ITS FALSE NEIGHBOUR: 'it returns false'. Refute it at one input. -/
def workingsetEnoughWrong : ChangeSpec := { name := "workingsetEnough", fn := fun _ => fun
  | [d1, d2, d3] => { results := [.lit (.bool false)], args := [d1, d2, d3] }
  | _ => none }
def WorkingsetEnoughWrongFalsely : Prop := workingsetEnoughRow.holds Try.pinned (OpenSpec.ofChange workingsetEnoughWrong)

/-- 'estoverslaw38.WorkingsetRecent': WHATEVER THE INPUT: true; the input reads as it did. -/
def workingsetRecentSpec : ChangeSpec := { name := "workingsetRecent", fn := fun _ => fun
  | [d1, d2] => { results := [.lit (.bool true)], args := [d1, d2] }
  | _ => none }
def workingsetRecentRow : OpenClaim := { program := "ytbalmmaoiebppaa", sum := "6d2fbf9c51c7201aa46b9f87b11403be51b6255d6f1558317c5e7bcbc85af370", func := "estovers/estoverslaw38.WorkingsetRecent", spec := "workingsetRecent", unfollowed := true, recurses := true, apart := false }
def WorkingsetRecentSaid : Prop := workingsetRecentRow.holds Try.pinned (OpenSpec.ofChange workingsetRecentSpec)

/-- ITS FALSE NEIGHBOUR: 'it returns false'. Refute it at one input. -/
def workingsetRecentWrong : ChangeSpec := { name := "workingsetRecent", fn := fun _ => fun
  | [d1, d2] => { results := [.lit (.bool false)], args := [d1, d2] }
  | _ => none }
def WorkingsetRecentWrongFalsely : Prop := workingsetRecentRow.holds Try.pinned (OpenSpec.ofChange workingsetRecentWrong)

/-- 'estoverslaw38.WorkingsetScan': WHATEVER THE INPUT: true; the input reads as it did. -/
def workingsetScanSpec : ChangeSpec := { name := "workingsetScan", fn := fun _ => fun
  | [d1, d2, d3] => { results := [.lit (.bool true)], args := [d1, d2, d3] }
  | _ => none }
def workingsetScanRow : OpenClaim := { program := "ytbalmmaoiebppaa", sum := "6d2fbf9c51c7201aa46b9f87b11403be51b6255d6f1558317c5e7bcbc85af370", func := "estovers/estoverslaw38.WorkingsetScan", spec := "workingsetScan", unfollowed := true, recurses := true, apart := false }
def WorkingsetScanSaid : Prop := workingsetScanRow.holds Try.pinned (OpenSpec.ofChange workingsetScanSpec)

/-- ITS FALSE NEIGHBOUR: 'it returns false'. Refute it at one input. -/
def workingsetScanWrong : ChangeSpec := { name := "workingsetScan", fn := fun _ => fun
  | [d1, d2, d3] => { results := [.lit (.bool false)], args := [d1, d2, d3] }
  | _ => none }
def WorkingsetScanWrongFalsely : Prop := workingsetScanRow.holds Try.pinned (OpenSpec.ofChange workingsetScanWrong)

/- THE SECOND FORM. 'bulk': how many values and letters a reading holds, each counted each time it is reached (what is shared counts as often as it is met; a slice's spare places count too). A statement '..UptoSaid' is the law's where the arguments, and the package variables that the reading takes, are together of bulk at most 1048576: NARROWER than '..Said'. Prove '..Said' where nothing that the law and all that it calls make is longer than what came in: it says more and counts as full. Else prove '..UptoSaid'. A law counts once. -/
mutual
def uptoBulk {H : Type} : DataW H → Nat
  | .lit (.string bytes) => bytes.length + 1
  | .lit _ => 1
  | .nil => 1
  | .ptr d => uptoBulk d + 1
  | .slice elems spare => uptoBulkAll elems + uptoBulkAll spare + 1
  | .agg parts => uptoBulkAll parts + 1
  | .iface _ d => uptoBulk d + 1
  | .map entries => uptoBulkEntries entries + 1
  | .held _ => 1
def uptoBulkAll {H : Type} : List (DataW H) → Nat
  | [] => 0
  | d :: r => uptoBulk d + uptoBulkAll r
def uptoBulkEntries {H : Type} : List (Lit × DataW H) → Nat
  | [] => 0
  | x :: r => uptoBulkEntry x + uptoBulkEntries r
def uptoBulkEntry {H : Type} : Lit × DataW H → Nat
  | (.string bytes, d) => bytes.length + uptoBulk d + 1
  | (_, d) => uptoBulk d + 1
 end
def uptoSmall : (H : Type) → List (DataW H) → Bool := fun _ ds => decide (uptoBulkAll ds ≤ 1048576)
def OpenSpec.upto (s : _root_.Go.ChangeSpec) : _root_.Go.OpenSpec := { _root_.Go.OpenSpec.ofChange s with cond := some uptoSmall }

/-- 'estoverslaw38.WorkingsetDistances', WHERE WHAT IT READS IS OF BULK AT MOST 1048576: true; the input reads as it did. -/
def workingsetDistancesUptoRow : OpenClaim := { program := "ytbalmmaoiebppaa", sum := "6d2fbf9c51c7201aa46b9f87b11403be51b6255d6f1558317c5e7bcbc85af370", func := "estovers/estoverslaw38.WorkingsetDistances", spec := "workingsetDistances", unfollowed := true, recurses := true, apart := false, narrowed := true }
def WorkingsetDistancesUptoSaid : Prop := workingsetDistancesUptoRow.holds Try.pinned (OpenSpec.upto workingsetDistancesSpec)

/-- 'estoverslaw38.WorkingsetRefaults', WHERE WHAT IT READS IS OF BULK AT MOST 1048576: true; the input reads as it did. -/
def workingsetRefaultsUptoRow : OpenClaim := { program := "ytbalmmaoiebppaa", sum := "6d2fbf9c51c7201aa46b9f87b11403be51b6255d6f1558317c5e7bcbc85af370", func := "estovers/estoverslaw38.WorkingsetRefaults", spec := "workingsetRefaults", unfollowed := true, recurses := true, apart := false, narrowed := true }
def WorkingsetRefaultsUptoSaid : Prop := workingsetRefaultsUptoRow.holds Try.pinned (OpenSpec.upto workingsetRefaultsSpec)

/-- 'estoverslaw38.WorkingsetLists', WHERE WHAT IT READS IS OF BULK AT MOST 1048576: true; the input reads as it did. -/
def workingsetListsUptoRow : OpenClaim := { program := "ytbalmmaoiebppaa", sum := "6d2fbf9c51c7201aa46b9f87b11403be51b6255d6f1558317c5e7bcbc85af370", func := "estovers/estoverslaw38.WorkingsetLists", spec := "workingsetLists", unfollowed := true, recurses := true, apart := false, narrowed := true }
def WorkingsetListsUptoSaid : Prop := workingsetListsUptoRow.holds Try.pinned (OpenSpec.upto workingsetListsSpec)

/-- 'estoverslaw38.WorkingsetEstimates', WHERE WHAT IT READS IS OF BULK AT MOST 1048576: true; the input reads as it did. -/
def workingsetEstimatesUptoRow : OpenClaim := { program := "ytbalmmaoiebppaa", sum := "6d2fbf9c51c7201aa46b9f87b11403be51b6255d6f1558317c5e7bcbc85af370", func := "estovers/estoverslaw38.WorkingsetEstimates", spec := "workingsetEstimates", unfollowed := true, recurses := true, apart := false, narrowed := true }
def WorkingsetEstimatesUptoSaid : Prop := workingsetEstimatesUptoRow.holds Try.pinned (OpenSpec.upto workingsetEstimatesSpec)

/-- 'estoverslaw38.WorkingsetEvicts', WHERE WHAT IT READS IS OF BULK AT MOST 1048576: true; the input reads as it did. -/
def workingsetEvictsUptoRow : OpenClaim := { program := "ytbalmmaoiebppaa", sum := "6d2fbf9c51c7201aa46b9f87b11403be51b6255d6f1558317c5e7bcbc85af370", func := "estovers/estoverslaw38.WorkingsetEvicts", spec := "workingsetEvicts", unfollowed := true, recurses := true, apart := false, narrowed := true }
def WorkingsetEvictsUptoSaid : Prop := workingsetEvictsUptoRow.holds Try.pinned (OpenSpec.upto workingsetEvictsSpec)

/-- 'estoverslaw38.WorkingsetEnough', WHERE WHAT IT READS IS OF BULK AT MOST 1048576: true; the input reads as it did. -/
def workingsetEnoughUptoRow : OpenClaim := { program := "ytbalmmaoiebppaa", sum := "6d2fbf9c51c7201aa46b9f87b11403be51b6255d6f1558317c5e7bcbc85af370", func := "estovers/estoverslaw38.WorkingsetEnough", spec := "workingsetEnough", unfollowed := true, recurses := true, apart := false, narrowed := true }
def WorkingsetEnoughUptoSaid : Prop := workingsetEnoughUptoRow.holds Try.pinned (OpenSpec.upto workingsetEnoughSpec)

/-- 'estoverslaw38.WorkingsetRecent', WHERE WHAT IT READS IS OF BULK AT MOST 1048576: true; the input reads as it did. -/
def workingsetRecentUptoRow : OpenClaim := { program := "ytbalmmaoiebppaa", sum := "6d2fbf9c51c7201aa46b9f87b11403be51b6255d6f1558317c5e7bcbc85af370", func := "estovers/estoverslaw38.WorkingsetRecent", spec := "workingsetRecent", unfollowed := true, recurses := true, apart := false, narrowed := true }
def WorkingsetRecentUptoSaid : Prop := workingsetRecentUptoRow.holds Try.pinned (OpenSpec.upto workingsetRecentSpec)

/-- 'estoverslaw38.WorkingsetScan', WHERE WHAT IT READS IS OF BULK AT MOST 1048576: true; the input reads as it did. -/
def workingsetScanUptoRow : OpenClaim := { program := "ytbalmmaoiebppaa", sum := "6d2fbf9c51c7201aa46b9f87b11403be51b6255d6f1558317c5e7bcbc85af370", func := "estovers/estoverslaw38.WorkingsetScan", spec := "workingsetScan", unfollowed := true, recurses := true, apart := false, narrowed := true }
def WorkingsetScanUptoSaid : Prop := workingsetScanUptoRow.holds Try.pinned (OpenSpec.upto workingsetScanSpec)

end Rows
end Go.Proofs.Ytbalmmaoiebppaa
