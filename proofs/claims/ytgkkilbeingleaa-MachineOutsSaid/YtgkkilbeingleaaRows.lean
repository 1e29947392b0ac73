/-
  No cell of these rows narrows 'for every input' (looked for: loops, veiled, ifaces, maps, wideKeys, modest, calm, conditions, laid).
  DERIVED. THE GIVEN ROWS OF THIS SEAT. 4 by the template 'for every input the law returns true; each argument reads behind the call as it read before'; 0 by the template 'total and deterministic' (their statements: YtgkkilbeingleaaTotals.lean).
  GIVEN WITH THE SEED: the statements are not yours to turn. If you find one false, say at which input.
  Laid BY PROGRAM, IN A SANDBOX (cutbox-rows.mjs): the forced cells as the released guide's own fill.sh prints them over the translation 5711611e654a27d2… (all of the seat's roots in one cut). By AI agents, Wed Nov 11 2026. No macro, syntax, notation, axiom, sorry.
-/
import Derived.Test.YtgkkilbeingleaaChecked
import GoSem.Claim
import GoSem.ClaimJoined
import GoSem.ClaimMapViews
import Derived.JoinedTies
import Derived.KernelRfl
namespace Go.Proofs.Ytgkkilbeingleaa
/- THE CELL 'sum', in the pinned program and in every row, IS THE sha256 OF THE DUMP (.gsa) THAT YtgkkilbeingleaaProg.lean LOADS. Nothing in Lean hashes anything: it is a label: what it is worth is what the hold of that sum in a sandbox is worth. -/
noncomputable def Try.pinned : Pinned := { name := "ytgkkilbeingleaa", sum := "5711611e654a27d25a78dd065b1e6c6c4afa2977b707bb3b3da19f20ee4ef05d", checked := Try.checked }
namespace Rows
def none {H : Type} : Left H := { results := [], args := [] }

/-- 'wordhoardlaw.MachineCosts': WHATEVER THE INPUT: true; the input reads as it did. -/
def machineCostsSpec : ChangeSpec := { name := "machineCosts", fn := fun _ => fun
  | [d1, d2, d3] => { results := [.lit (.bool true)], args := [d1, d2, d3] }
  | _ => none }
def machineCostsRow : OpenClaim := { program := "ytgkkilbeingleaa", sum := "5711611e654a27d25a78dd065b1e6c6c4afa2977b707bb3b3da19f20ee4ef05d", func := "wordhoard/wordhoardlaw.MachineCosts", spec := "machineCosts", unfollowed := true, recurses := true, plainKeys := false, apart := false }
def MachineCostsSaid : Prop := machineCostsRow.holds Try.pinned (OpenSpec.ofChange machineCostsSpec)

/-- ITS FALSE NEIGHBOUR: 'it returns false'. Refute it at one input. -/
def machineCostsWrong : ChangeSpec := { name := "machineCosts", fn := fun _ => fun
  | [d1, d2, d3] => { results := [.lit (.bool false)], args := [d1, d2, d3] }
  | _ => none }
def MachineCostsWrongFalsely : Prop := machineCostsRow.holds Try.pinned (OpenSpec.ofChange machineCostsWrong)

/-- 'wordhoardlaw.MachineThrough': WHATEVER THE INPUT: true; the input reads as it did. -/
def machineThroughSpec : ChangeSpec := { name := "machineThrough", fn := fun _ => fun
  | [d1, d2, d3, d4] => { results := [.lit (.bool true)], args := [d1, d2, d3, d4] }
  | _ => none }
def machineThroughRow : OpenClaim := { program := "ytgkkilbeingleaa", sum := "5711611e654a27d25a78dd065b1e6c6c4afa2977b707bb3b3da19f20ee4ef05d", func := "wordhoard/wordhoardlaw.MachineThrough", spec := "machineThrough", unfollowed := true, recurses := true, plainKeys := false, apart := false }
def MachineThroughSaid : Prop := machineThroughRow.holds Try.pinned (OpenSpec.ofChange machineThroughSpec)

/-- ITS FALSE NEIGHBOUR: 'it returns false'. Refute it at one input. -/
def machineThroughWrong : ChangeSpec := { name := "machineThrough", fn := fun _ => fun
  | [d1, d2, d3, d4] => { results := [.lit (.bool false)], args := [d1, d2, d3, d4] }
  | _ => none }
def MachineThroughWrongFalsely : Prop := machineThroughRow.holds Try.pinned (OpenSpec.ofChange machineThroughWrong)

/-- 'wordhoardlaw.MachineMakes': WHATEVER THE INPUT: true; the input reads as it did. -/
def machineMakesSpec : ChangeSpec := { name := "machineMakes", fn := fun _ => fun
  | [d1, d2, d3, d4] => { results := [.lit (.bool true)], args := [d1, d2, d3, d4] }
  | _ => none }
def machineMakesRow : OpenClaim := { program := "ytgkkilbeingleaa", sum := "5711611e654a27d25a78dd065b1e6c6c4afa2977b707bb3b3da19f20ee4ef05d", func := "wordhoard/wordhoardlaw.MachineMakes", spec := "machineMakes", unfollowed := true, recurses := true, plainKeys := false, apart := false }
def MachineMakesSaid : Prop := machineMakesRow.holds Try.pinned (OpenSpec.ofChange machineMakesSpec)

/-- ITS FALSE NEIGHBOUR: 'it returns false'. Refute it at one input. -/
def machineMakesWrong : ChangeSpec := { name := "machineMakes", fn := fun _ => fun
  | [d1, d2, d3, d4] => { results := [.lit (.bool false)], args := [d1, d2, d3, d4] }
  | _ => none }
def MachineMakesWrongFalsely : Prop := machineMakesRow.holds Try.pinned (OpenSpec.ofChange machineMakesWrong)

/-- 'wordhoardlaw.MachineOuts': WHATEVER THE INPUT: true; the input reads as it did. -/
def machineOutsSpec : ChangeSpec := { name := "machineOuts", fn := fun _ => fun
  | [d1, d2, d3] => { results := [.lit (.bool true)], args := [d1, d2, d3] }
  | _ => none }
def machineOutsRow : OpenClaim := { program := "ytgkkilbeingleaa", sum := "5711611e654a27d25a78dd065b1e6c6c4afa2977b707bb3b3da19f20ee4ef05d", func := "wordhoard/wordhoardlaw.MachineOuts", spec := "machineOuts", unfollowed := true, recurses := true, plainKeys := false, apart := false }
def MachineOutsSaid : Prop := machineOutsRow.holds Try.pinned (OpenSpec.ofChange machineOutsSpec)

/-- ITS FALSE NEIGHBOUR: 'it returns false'. Refute it at one input. -/
def machineOutsWrong : ChangeSpec := { name := "machineOuts", fn := fun _ => fun
  | [d1, d2, d3] => { results := [.lit (.bool false)], args := [d1, d2, d3] }
  | _ => none }
def MachineOutsWrongFalsely : Prop := machineOutsRow.holds Try.pinned (OpenSpec.ofChange machineOutsWrong)

/- THE SECOND FORM. 'bulk': how many values and letters a reading holds, each counted each time it is reached (what is shared counts as often as it is met; a slice's spare places count too). A statement '..UptoSaid' is the law's where the arguments, and the package variables that the reading takes, are together of bulk at most 1048576: NARROWER than '..Said'. Prove '..Said' where nothing that the law and all that it calls make is longer than what came in: it says more and counts as full. Else prove '..UptoSaid'. A law counts once. -/
mutual
def uptoBulk {H : Type} : DataW H → Nat
  | .lit (.string bytes) => bytes.length + 1
  | .lit _ => 1
  | .nil => 1
  | .ptr d => uptoBulk d + 1
  | .slice elems spare => uptoBulkAll elems + uptoBulkAll spare + 1
  | .agg parts => uptoBulkAll parts + 1
  | .iface _ d => uptoBulk d + 1
  | .map entries => uptoBulkEntries entries + 1
  | .held _ => 1
def uptoBulkAll {H : Type} : List (DataW H) → Nat
  | [] => 0
  | d :: r => uptoBulk d + uptoBulkAll r
def uptoBulkEntries {H : Type} : List (Lit × DataW H) → Nat
  | [] => 0
  | x :: r => uptoBulkEntry x + uptoBulkEntries r
def uptoBulkEntry {H : Type} : Lit × DataW H → Nat
  | (.string bytes, d) => bytes.length + uptoBulk d + 1
  | (_, d) => uptoBulk d + 1
 end
def uptoSmall : (H : Type) → List (DataW H) → Bool := fun _ ds => decide (uptoBulkAll ds ≤ 1048576)
def OpenSpec.upto (s : _root_.Go.ChangeSpec) : _root_.Go.OpenSpec := { _root_.Go.OpenSpec.ofChange s with cond := some uptoSmall }

/-- 'wordhoardlaw.MachineCosts', WHERE WHAT IT READS IS OF BULK AT MOST 1048576: true; the input reads as it did. -/
def machineCostsUptoRow : OpenClaim := { program := "ytgkkilbeingleaa", sum := "5711611e654a27d25a78dd065b1e6c6c4afa2977b707bb3b3da19f20ee4ef05d", func := "wordhoard/wordhoardlaw.MachineCosts", spec := "machineCosts", unfollowed := true, recurses := true, plainKeys := false, apart := false, narrowed := true }
def MachineCostsUptoSaid : Prop := machineCostsUptoRow.holds Try.pinned (OpenSpec.upto machineCostsSpec)

/-- 'wordhoardlaw.MachineThrough', WHERE WHAT IT READS IS OF BULK AT MOST 1048576: true; the input reads as it did. -/
def machineThroughUptoRow : OpenClaim := { program := "ytgkkilbeingleaa", sum := "5711611e654a27d25a78dd065b1e6c6c4afa2977b707bb3b3da19f20ee4ef05d", func := "wordhoard/wordhoardlaw.MachineThrough", spec := "machineThrough", unfollowed := true, recurses := true, plainKeys := false, apart := false, narrowed := true }
def MachineThroughUptoSaid : Prop := machineThroughUptoRow.holds Try.pinned (OpenSpec.upto machineThroughSpec)

/-- 'wordhoardlaw.MachineMakes', WHERE WHAT IT READS IS OF BULK AT MOST 1048576: true; the input reads as it did. -/
def machineMakesUptoRow : OpenClaim := { program := "ytgkkilbeingleaa", sum := "5711611e654a27d25a78dd065b1e6c6c4afa2977b707bb3b3da19f20ee4ef05d", func := "wordhoard/wordhoardlaw.MachineMakes", spec := "machineMakes", unfollowed := true, recurses := true, plainKeys := false, apart := false, narrowed := true }
def MachineMakesUptoSaid : Prop := machineMakesUptoRow.holds Try.pinned (OpenSpec.upto machineMakesSpec)

/-- 'wordhoardlaw.MachineOuts', WHERE WHAT IT READS IS OF BULK AT MOST 1048576: true; the input reads as it did. -/
def machineOutsUptoRow : OpenClaim := { program := "ytgkkilbeingleaa", sum := "5711611e654a27d25a78dd065b1e6c6c4afa2977b707bb3b3da19f20ee4ef05d", func := "wordhoard/wordhoardlaw.MachineOuts", spec := "machineOuts", unfollowed := true, recurses := true, plainKeys := false, apart := false, narrowed := true }
def MachineOutsUptoSaid : Prop := machineOutsUptoRow.holds Try.pinned (OpenSpec.upto machineOutsSpec)

end Rows
end Go.Proofs.Ytgkkilbeingleaa
