/-
  No cell of these rows narrows 'for every input' (looked for: loops, veiled, ifaces, maps, wideKeys, modest, calm, conditions, laid).
  DERIVED. THE GIVEN ROWS OF THIS SEAT. 2 by the template 'for every input the law returns true; each argument reads behind the call as it read before'; 0 by the template 'total and deterministic' (their statements: YtaepnmnoofigjaaTotals.lean).
  GIVEN WITH THE SEED: the statements are not yours to turn. If you find one false, say at which input.
  Laid BY PROGRAM, IN A SANDBOX (cutbox-rows.mjs): the forced cells as the released guide's own fill.sh prints them over the translation 7c3d93e51607d112… (all of the seat's roots in one cut). By AI agents, Wed Nov 11 2026. No macro, syntax, notation, axiom, sorry.
-/
import Derived.Test.YtaepnmnoofigjaaChecked
import GoSem.Claim
import GoSem.ClaimJoined
import GoSem.ClaimMapViews
import Derived.JoinedTies
import Derived.KernelRfl
namespace Go.Proofs.Ytaepnmnoofigjaa
/- THE CELL 'sum', in the pinned program and in every row, IS THE sha256 OF THE DUMP (.gsa) THAT YtaepnmnoofigjaaProg.lean LOADS. Nothing in Lean hashes anything: it is a label: what it is worth is what the hold of that sum in a sandbox is worth. -/
noncomputable def Try.pinned : Pinned := { name := "ytaepnmnoofigjaa", sum := "7c3d93e51607d112428b01f18e0abd134e37b35dcd2aecddcaefc4d39fdc0409", checked := Try.checked }
namespace Rows
def none {H : Type} : Left H := { results := [], args := [] }

/-- 'wordhoardlaw.HeadsMore': WHATEVER THE INPUT: true; the input reads as it did. -/
def headsMoreSpec : ChangeSpec := { name := "headsMore", fn := fun _ => fun
  | [d1, d2, d3] => { results := [.lit (.bool true)], args := [d1, d2, d3] }
  | _ => none }
def headsMoreRow : OpenClaim := { program := "ytaepnmnoofigjaa", sum := "7c3d93e51607d112428b01f18e0abd134e37b35dcd2aecddcaefc4d39fdc0409", func := "wordhoard/wordhoardlaw.HeadsMore", spec := "headsMore", unfollowed := true, recurses := true, apart := false }
def HeadsMoreSaid : Prop := headsMoreRow.holds Try.pinned (OpenSpec.ofChange headsMoreSpec)

/-- ITS FALSE NEIGHBOUR: 'it returns false'. Refute it at one input. -/
def headsMoreWrong : ChangeSpec := { name := "headsMore", fn := fun _ => fun
  | [d1, d2, d3] => { results := [.lit (.bool false)], args := [d1, d2, d3] }
  | _ => none }
def HeadsMoreWrongFalsely : Prop := headsMoreRow.holds Try.pinned (OpenSpec.ofChange headsMoreWrong)

/-- 'wordhoardlaw.HeadsBest': WHATEVER THE INPUT: true; the input reads as it did. -/
def headsBestSpec : ChangeSpec := { name := "headsBest", fn := fun _ => fun
  | [d1, d2] => { results := [.lit (.bool true)], args := [d1, d2] }
  | _ => none }
def headsBestRow : OpenClaim := { program := "ytaepnmnoofigjaa", sum := "7c3d93e51607d112428b01f18e0abd134e37b35dcd2aecddcaefc4d39fdc0409", func := "wordhoard/wordhoardlaw.HeadsBest", spec := "headsBest", unfollowed := true, recurses := true, apart := false }
def HeadsBestSaid : Prop := headsBestRow.holds Try.pinned (OpenSpec.ofChange headsBestSpec)

/-- ITS FALSE NEIGHBOUR: 'it returns false'. Refute it at one input. -/
def headsBestWrong : ChangeSpec := { name := "headsBest", fn := fun _ => fun
  | [d1, d2] => { results := [.lit (.bool false)], args := [d1, d2] }
  | _ => none }
def HeadsBestWrongFalsely : Prop := headsBestRow.holds Try.pinned (OpenSpec.ofChange headsBestWrong)

/- THE SECOND FORM. 'bulk': how many values and letters a reading holds, each counted each time it is reached (what is shared counts as often as it is met; a slice's spare places count too). A statement '..UptoSaid' is the law's where the arguments, and the package variables that the reading takes, are together of bulk at most 1048576: NARROWER than '..Said'. Prove '..Said' where nothing that the law and all that it calls make is longer than what came in: it says more and counts as full. Else prove '..UptoSaid'. A law counts once. -/
mutual
def uptoBulk {H : Type} : DataW H → Nat
  | .lit (.string bytes) => bytes.length + 1
  | .lit _ => 1
  | .nil => 1
  | .ptr d => uptoBulk d + 1
  | .slice elems spare => uptoBulkAll elems + uptoBulkAll spare + 1
  | .agg parts => uptoBulkAll parts + 1
  | .iface _ d => uptoBulk d + 1
  | .map entries => uptoBulkEntries entries + 1
  | .held _ => 1
def uptoBulkAll {H : Type} : List (DataW H) → Nat
  | [] => 0
  | d :: r => uptoBulk d + uptoBulkAll r
def uptoBulkEntries {H : Type} : List (Lit × DataW H) → Nat
  | [] => 0
  | x :: r => uptoBulkEntry x + uptoBulkEntries r
def uptoBulkEntry {H : Type} : Lit × DataW H → Nat
  | (.string bytes, d) => bytes.length + uptoBulk d + 1
  | (_, d) => uptoBulk d + 1
 end
def uptoSmall : (H : Type) → List (DataW H) → Bool := fun _ ds => decide (uptoBulkAll ds ≤ 1048576)
def OpenSpec.upto (s : _root_.Go.ChangeSpec) : _root_.Go.OpenSpec := { _root_.Go.OpenSpec.ofChange s with cond := some uptoSmall }

/-- 'wordhoardlaw.HeadsMore', WHERE WHAT IT READS IS OF BULK AT MOST 1048576: true; the input reads as it did. -/
def headsMoreUptoRow : OpenClaim := { program := "ytaepnmnoofigjaa", sum := "7c3d93e51607d112428b01f18e0abd134e37b35dcd2aecddcaefc4d39fdc0409", func := "wordhoard/wordhoardlaw.HeadsMore", spec := "headsMore", unfollowed := true, recurses := true, apart := false, narrowed := true }
def HeadsMoreUptoSaid : Prop := headsMoreUptoRow.holds Try.pinned (OpenSpec.upto headsMoreSpec)

/-- 'wordhoardlaw.HeadsBest', WHERE WHAT IT READS IS OF BULK AT MOST 1048576: true; the input reads as it did. -/
def headsBestUptoRow : OpenClaim := { program := "ytaepnmnoofigjaa", sum := "7c3d93e51607d112428b01f18e0abd134e37b35dcd2aecddcaefc4d39fdc0409", func := "wordhoard/wordhoardlaw.HeadsBest", spec := "headsBest", unfollowed := true, recurses := true, apart := false, narrowed := true }
def HeadsBestUptoSaid : Prop := headsBestUptoRow.holds Try.pinned (OpenSpec.upto headsBestSpec)

end Rows
end Go.Proofs.Ytaepnmnoofigjaa
