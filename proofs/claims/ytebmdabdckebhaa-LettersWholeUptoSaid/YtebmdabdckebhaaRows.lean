/-
  No cell of these rows narrows 'for every input' (looked for: loops, veiled, ifaces, maps, wideKeys, modest, calm, conditions, laid).
  DERIVED. THE GIVEN ROWS OF THIS SEAT. 4 by the template 'for every input the law returns true; each argument reads behind the call as it read before'; 0 by the template 'total and deterministic' (their statements: YtebmdabdckebhaaTotals.lean).
  GIVEN WITH THE SEED: the statements are not yours to turn. If you find one false, say at which input.
  Laid BY PROGRAM, IN A SANDBOX (cutbox-rows.mjs): the forced cells as the released guide's own fill.sh prints them over the translation 3173237b5a95a634… (all of the seat's roots in one cut). By AI agents, Wed Nov 11 2026. No macro, syntax, notation, axiom, sorry.
-/
import Derived.Test.YtebmdabdckebhaaChecked
import GoSem.Claim
import GoSem.ClaimJoined
import GoSem.ClaimMapViews
import Derived.JoinedTies
import Derived.KernelRfl
namespace Go.Proofs.Ytebmdabdckebhaa
/- THE CELL 'sum', in the pinned program and in every row, IS THE sha256 OF THE DUMP (.gsa) THAT YtebmdabdckebhaaProg.lean LOADS. Nothing in Lean hashes anything: it is a label: what it is worth is what the hold of that sum in a sandbox is worth. -/
noncomputable def Try.pinned : Pinned := { name := "ytebmdabdckebhaa", sum := "3173237b5a95a63498bb4fd53f57b674d96ce890f6655d37de964dea64cceeef", checked := Try.checked }
namespace Rows
def none {H : Type} : Left H := { results := [], args := [] }

/-- 'wordhoardlaw.LettersUnits': WHATEVER THE INPUT: true; the input reads as it did. -/
def lettersUnitsSpec : ChangeSpec := { name := "lettersUnits", fn := fun _ => fun
  | [d1, d2] => { results := [.lit (.bool true)], args := [d1, d2] }
  | _ => none }
def lettersUnitsRow : OpenClaim := { program := "ytebmdabdckebhaa", sum := "3173237b5a95a63498bb4fd53f57b674d96ce890f6655d37de964dea64cceeef", func := "wordhoard/wordhoardlaw.LettersUnits", spec := "lettersUnits", inPlace := ["internal/abi.NoEscape"], plainKeys := false, apart := false }
def LettersUnitsSaid : Prop := lettersUnitsRow.holds Try.pinned (OpenSpec.ofChange lettersUnitsSpec)

/-- ITS FALSE NEIGHBOUR: 'it returns false'. Refute it at one input. -/
def lettersUnitsWrong : ChangeSpec := { name := "lettersUnits", fn := fun _ => fun
  | [d1, d2] => { results := [.lit (.bool false)], args := [d1, d2] }
  | _ => none }
def LettersUnitsWrongFalsely : Prop := lettersUnitsRow.holds Try.pinned (OpenSpec.ofChange lettersUnitsWrong)

/-- 'wordhoardlaw.LettersFolds': WHATEVER THE INPUT: true; the input reads as it did. -/
def lettersFoldsSpec : ChangeSpec := { name := "lettersFolds", fn := fun _ => fun
  | [d] => { results := [.lit (.bool true)], args := [d] }
  | _ => none }
def lettersFoldsRow : OpenClaim := { program := "ytebmdabdckebhaa", sum := "3173237b5a95a63498bb4fd53f57b674d96ce890f6655d37de964dea64cceeef", func := "wordhoard/wordhoardlaw.LettersFolds", spec := "lettersFolds", inPlace := ["internal/abi.NoEscape"], plainKeys := false, apart := false }
def LettersFoldsSaid : Prop := lettersFoldsRow.holds Try.pinned (OpenSpec.ofChange lettersFoldsSpec)

/-- ITS FALSE NEIGHBOUR: 'it returns false'. Refute it at one input. -/
def lettersFoldsWrong : ChangeSpec := { name := "lettersFolds", fn := fun _ => fun
  | [d] => { results := [.lit (.bool false)], args := [d] }
  | _ => none }
def LettersFoldsWrongFalsely : Prop := lettersFoldsRow.holds Try.pinned (OpenSpec.ofChange lettersFoldsWrong)

/-- 'wordhoardlaw.LettersWhole': WHATEVER THE INPUT: true; the input reads as it did. -/
def lettersWholeSpec : ChangeSpec := { name := "lettersWhole", fn := fun _ => fun
  | [d] => { results := [.lit (.bool true)], args := [d] }
  | _ => none }
def lettersWholeRow : OpenClaim := { program := "ytebmdabdckebhaa", sum := "3173237b5a95a63498bb4fd53f57b674d96ce890f6655d37de964dea64cceeef", func := "wordhoard/wordhoardlaw.LettersWhole", spec := "lettersWhole", inPlace := ["internal/abi.NoEscape"], plainKeys := false, apart := false }
def LettersWholeSaid : Prop := lettersWholeRow.holds Try.pinned (OpenSpec.ofChange lettersWholeSpec)

/-- ITS FALSE NEIGHBOUR: 'it returns false'. Refute it at one input. -/
def lettersWholeWrong : ChangeSpec := { name := "lettersWhole", fn := fun _ => fun
  | [d] => { results := [.lit (.bool false)], args := [d] }
  | _ => none }
def LettersWholeWrongFalsely : Prop := lettersWholeRow.holds Try.pinned (OpenSpec.ofChange lettersWholeWrong)

/-- 'wordhoardlaw.ProveHolds': WHATEVER THE INPUT: true; the input reads as it did. -/
def proveHoldsSpec : ChangeSpec := { name := "proveHolds", fn := fun _ => fun
  | [d1, d2] => { results := [.lit (.bool true)], args := [d1, d2] }
  | _ => none }
def proveHoldsRow : OpenClaim := { program := "ytebmdabdckebhaa", sum := "3173237b5a95a63498bb4fd53f57b674d96ce890f6655d37de964dea64cceeef", func := "wordhoard/wordhoardlaw.ProveHolds", spec := "proveHolds", unfollowed := true, recurses := true, plainKeys := false, apart := false }
def ProveHoldsSaid : Prop := proveHoldsRow.holds Try.pinned (OpenSpec.ofChange proveHoldsSpec)

/-- ITS FALSE NEIGHBOUR: 'it returns false'. Refute it at one input. -/
def proveHoldsWrong : ChangeSpec := { name := "proveHolds", fn := fun _ => fun
  | [d1, d2] => { results := [.lit (.bool false)], args := [d1, d2] }
  | _ => none }
def ProveHoldsWrongFalsely : Prop := proveHoldsRow.holds Try.pinned (OpenSpec.ofChange proveHoldsWrong)

/- THE SECOND FORM. 'bulk': how many values and letters a reading holds, each counted each time it is reached (what is shared counts as often as it is met; a slice's spare places count too). A statement '..UptoSaid' is the law's where the arguments, and the package variables that the reading takes, are together of bulk at most 1048576: NARROWER than '..Said'. Prove '..Said' where nothing that the law and all that it calls make is longer than what came in: it says more and counts as full. Else prove '..UptoSaid'. A law counts once. -/
mutual
def uptoBulk {H : Type} : DataW H → Nat
  | .lit (.string bytes) => bytes.length + 1
  | .lit _ => 1
  | .nil => 1
  | .ptr d => uptoBulk d + 1
  | .slice elems spare => uptoBulkAll elems + uptoBulkAll spare + 1
  | .agg parts => uptoBulkAll parts + 1
  | .iface _ d => uptoBulk d + 1
  | .map entries => uptoBulkEntries entries + 1
  | .held _ => 1
def uptoBulkAll {H : Type} : List (DataW H) → Nat
  | [] => 0
  | d :: r => uptoBulk d + uptoBulkAll r
def uptoBulkEntries {H : Type} : List (Lit × DataW H) → Nat
  | [] => 0
  | x :: r => uptoBulkEntry x + uptoBulkEntries r
def uptoBulkEntry {H : Type} : Lit × DataW H → Nat
  | (.string bytes, d) => bytes.length + uptoBulk d + 1
  | (_, d) => uptoBulk d + 1
 end
def uptoSmall : (H : Type) → List (DataW H) → Bool := fun _ ds => decide (uptoBulkAll ds ≤ 1048576)
def OpenSpec.upto (s : _root_.Go.ChangeSpec) : _root_.Go.OpenSpec := { _root_.Go.OpenSpec.ofChange s with cond := some uptoSmall }

/-- 'wordhoardlaw.LettersUnits', WHERE WHAT IT READS IS OF BULK AT MOST 1048576: true; the input reads as it did. -/
def lettersUnitsUptoRow : OpenClaim := { program := "ytebmdabdckebhaa", sum := "3173237b5a95a63498bb4fd53f57b674d96ce890f6655d37de964dea64cceeef", func := "wordhoard/wordhoardlaw.LettersUnits", spec := "lettersUnits", inPlace := ["internal/abi.NoEscape"], plainKeys := false, apart := false, narrowed := true }
def LettersUnitsUptoSaid : Prop := lettersUnitsUptoRow.holds Try.pinned (OpenSpec.upto lettersUnitsSpec)

/-- 'wordhoardlaw.LettersFolds', WHERE WHAT IT READS IS OF BULK AT MOST 1048576: true; the input reads as it did. -/
def lettersFoldsUptoRow : OpenClaim := { program := "ytebmdabdckebhaa", sum := "3173237b5a95a63498bb4fd53f57b674d96ce890f6655d37de964dea64cceeef", func := "wordhoard/wordhoardlaw.LettersFolds", spec := "lettersFolds", inPlace := ["internal/abi.NoEscape"], plainKeys := false, apart := false, narrowed := true }
def LettersFoldsUptoSaid : Prop := lettersFoldsUptoRow.holds Try.pinned (OpenSpec.upto lettersFoldsSpec)

/-- 'wordhoardlaw.LettersWhole', WHERE WHAT IT READS IS OF BULK AT MOST 1048576: true; the input reads as it did. -/
def lettersWholeUptoRow : OpenClaim := { program := "ytebmdabdckebhaa", sum := "3173237b5a95a63498bb4fd53f57b674d96ce890f6655d37de964dea64cceeef", func := "wordhoard/wordhoardlaw.LettersWhole", spec := "lettersWhole", inPlace := ["internal/abi.NoEscape"], plainKeys := false, apart := false, narrowed := true }
def LettersWholeUptoSaid : Prop := lettersWholeUptoRow.holds Try.pinned (OpenSpec.upto lettersWholeSpec)

/-- 'wordhoardlaw.ProveHolds', WHERE WHAT IT READS IS OF BULK AT MOST 1048576: true; the input reads as it did. -/
def proveHoldsUptoRow : OpenClaim := { program := "ytebmdabdckebhaa", sum := "3173237b5a95a63498bb4fd53f57b674d96ce890f6655d37de964dea64cceeef", func := "wordhoard/wordhoardlaw.ProveHolds", spec := "proveHolds", unfollowed := true, recurses := true, plainKeys := false, apart := false, narrowed := true }
def ProveHoldsUptoSaid : Prop := proveHoldsUptoRow.holds Try.pinned (OpenSpec.upto proveHoldsSpec)

end Rows
end Go.Proofs.Ytebmdabdckebhaa
