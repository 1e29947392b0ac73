/-
  No cell of these rows narrows 'for every input' (looked for: loops, veiled, ifaces, maps, wideKeys, modest, calm, conditions, laid).
  DERIVED. THE GIVEN ROWS OF THIS SEAT. 4 by the template 'for every input the law returns true; each argument reads behind the call as it read before'; 0 by the template 'total and deterministic' (their statements: YtcmnjoepadjioaaTotals.lean).
  GIVEN WITH THE SEED: the statements are not yours to turn. If you find one false, say at which input.
  Laid BY PROGRAM, IN A SANDBOX (cutbox-rows.mjs): the forced cells as the released guide's own fill.sh prints them over the translation 61c991214aac2a47… (all of the seat's roots in one cut). By AI agents, Wed Nov 11 2026. No macro, syntax, notation, axiom, sorry.
-/
import Derived.Test.YtcmnjoepadjioaaChecked
import GoSem.Claim
import GoSem.ClaimJoined
import GoSem.ClaimMapViews
import Derived.JoinedTies
import Derived.KernelRfl
namespace Go.Proofs.Ytcmnjoepadjioaa
/- THE CELL 'sum', in the pinned program and in every row, IS THE sha256 OF THE DUMP (.gsa) THAT YtcmnjoepadjioaaProg.lean LOADS. Nothing in Lean hashes anything: it is a label: what it is worth is what the hold of that sum in a sandbox is worth. -/
noncomputable def Try.pinned : Pinned := { name := "ytcmnjoepadjioaa", sum := "61c991214aac2a47453236400da2cd73efa298b16ce19d05244dc402aba512db", checked := Try.checked }
namespace Rows
def none {H : Type} : Left H := { results := [], args := [] }

/-- 'wordhoardlaw.ProveHolds': WHATEVER THE INPUT: true; the input reads as it did. -/
def proveHoldsSpec : ChangeSpec := { name := "proveHolds", fn := fun _ => fun
  | [d1, d2] => { results := [.lit (.bool true)], args := [d1, d2] }
  | _ => none }
def proveHoldsRow : OpenClaim := { program := "ytcmnjoepadjioaa", sum := "61c991214aac2a47453236400da2cd73efa298b16ce19d05244dc402aba512db", func := "wordhoard/wordhoardlaw.ProveHolds", spec := "proveHolds", unfollowed := true, recurses := true, plainKeys := false, apart := false }
def ProveHoldsSaid : Prop := proveHoldsRow.holds Try.pinned (OpenSpec.ofChange proveHoldsSpec)

/-- ITS FALSE NEIGHBOUR: 'it returns false'. Refute it at one input. -/
def proveHoldsWrong : ChangeSpec := { name := "proveHolds", fn := fun _ => fun
  | [d1, d2] => { results := [.lit (.bool false)], args := [d1, d2] }
  | _ => none }
def ProveHoldsWrongFalsely : Prop := proveHoldsRow.holds Try.pinned (OpenSpec.ofChange proveHoldsWrong)

/-- 'wordhoardlaw.ProveSound': WHATEVER THE INPUT: true; the input reads as it did. -/
def proveSoundSpec : ChangeSpec := { name := "proveSound", fn := fun _ => fun
  | [d1, d2] => { results := [.lit (.bool true)], args := [d1, d2] }
  | _ => none }
def proveSoundRow : OpenClaim := { program := "ytcmnjoepadjioaa", sum := "61c991214aac2a47453236400da2cd73efa298b16ce19d05244dc402aba512db", func := "wordhoard/wordhoardlaw.ProveSound", spec := "proveSound", unfollowed := true, recurses := true, plainKeys := false, apart := false }
def ProveSoundSaid : Prop := proveSoundRow.holds Try.pinned (OpenSpec.ofChange proveSoundSpec)

/-- ITS FALSE NEIGHBOUR: 'it returns false'. Refute it at one input. -/
def proveSoundWrong : ChangeSpec := { name := "proveSound", fn := fun _ => fun
  | [d1, d2] => { results := [.lit (.bool false)], args := [d1, d2] }
  | _ => none }
def ProveSoundWrongFalsely : Prop := proveSoundRow.holds Try.pinned (OpenSpec.ofChange proveSoundWrong)

/-- 'wordhoardlaw.ProveArgues': WHATEVER THE INPUT: true; the input reads as it did. -/
def proveArguesSpec : ChangeSpec := { name := "proveArgues", fn := fun _ => fun
  | [d1, d2] => { results := [.lit (.bool true)], args := [d1, d2] }
  | _ => none }
def proveArguesRow : OpenClaim := { program := "ytcmnjoepadjioaa", sum := "61c991214aac2a47453236400da2cd73efa298b16ce19d05244dc402aba512db", func := "wordhoard/wordhoardlaw.ProveArgues", spec := "proveArgues", unfollowed := true, recurses := true, plainKeys := false, apart := false }
def ProveArguesSaid : Prop := proveArguesRow.holds Try.pinned (OpenSpec.ofChange proveArguesSpec)

/-- ITS FALSE NEIGHBOUR: 'it returns false'. Refute it at one input. -/
def proveArguesWrong : ChangeSpec := { name := "proveArgues", fn := fun _ => fun
  | [d1, d2] => { results := [.lit (.bool false)], args := [d1, d2] }
  | _ => none }
def ProveArguesWrongFalsely : Prop := proveArguesRow.holds Try.pinned (OpenSpec.ofChange proveArguesWrong)

/-- 'wordhoardlaw.ProveComplete': WHATEVER THE INPUT: true; the input reads as it did. -/
def proveCompleteSpec : ChangeSpec := { name := "proveComplete", fn := fun _ => fun
  | [d1, d2, d3, d4] => { results := [.lit (.bool true)], args := [d1, d2, d3, d4] }
  | _ => none }
def proveCompleteRow : OpenClaim := { program := "ytcmnjoepadjioaa", sum := "61c991214aac2a47453236400da2cd73efa298b16ce19d05244dc402aba512db", func := "wordhoard/wordhoardlaw.ProveComplete", spec := "proveComplete", unfollowed := true, recurses := true, plainKeys := false, apart := false }
def ProveCompleteSaid : Prop := proveCompleteRow.holds Try.pinned (OpenSpec.ofChange proveCompleteSpec)

/-- ITS FALSE NEIGHBOUR: 'it returns false'. Refute it at one input. -/
def proveCompleteWrong : ChangeSpec := { name := "proveComplete", fn := fun _ => fun
  | [d1, d2, d3, d4] => { results := [.lit (.bool false)], args := [d1, d2, d3, d4] }
  | _ => none }
def ProveCompleteWrongFalsely : Prop := proveCompleteRow.holds Try.pinned (OpenSpec.ofChange proveCompleteWrong)

/- THE SECOND FORM. 'bulk': how many values and letters a reading holds, each counted each time it is reached (what is shared counts as often as it is met; a slice's spare places count too). A statement '..UptoSaid' is the law's where the arguments, and the package variables that the reading takes, are together of bulk at most 1048576: NARROWER than '..Said'. Prove '..Said' where nothing that the law and all that it calls make is longer than what came in: it says more and counts as full. Else prove '..UptoSaid'. A law counts once. -/
mutual
def uptoBulk {H : Type} : DataW H → Nat
  | .lit (.string bytes) => bytes.length + 1
  | .lit _ => 1
  | .nil => 1
  | .ptr d => uptoBulk d + 1
  | .slice elems spare => uptoBulkAll elems + uptoBulkAll spare + 1
  | .agg parts => uptoBulkAll parts + 1
  | .iface _ d => uptoBulk d + 1
  | .map entries => uptoBulkEntries entries + 1
  | .held _ => 1
def uptoBulkAll {H : Type} : List (DataW H) → Nat
  | [] => 0
  | d :: r => uptoBulk d + uptoBulkAll r
def uptoBulkEntries {H : Type} : List (Lit × DataW H) → Nat
  | [] => 0
  | x :: r => uptoBulkEntry x + uptoBulkEntries r
def uptoBulkEntry {H : Type} : Lit × DataW H → Nat
  | (.string bytes, d) => bytes.length + uptoBulk d + 1
  | (_, d) => uptoBulk d + 1
 end
def uptoSmall : (H : Type) → List (DataW H) → Bool := fun _ ds => decide (uptoBulkAll ds ≤ 1048576)
def OpenSpec.upto (s : _root_.Go.ChangeSpec) : _root_.Go.OpenSpec := { _root_.Go.OpenSpec.ofChange s with cond := some uptoSmall }

/-- 'wordhoardlaw.ProveHolds', WHERE WHAT IT READS IS OF BULK AT MOST 1048576: true; the input reads as it did. -/
def proveHoldsUptoRow : OpenClaim := { program := "ytcmnjoepadjioaa", sum := "61c991214aac2a47453236400da2cd73efa298b16ce19d05244dc402aba512db", func := "wordhoard/wordhoardlaw.ProveHolds", spec := "proveHolds", unfollowed := true, recurses := true, plainKeys := false, apart := false, narrowed := true }
def ProveHoldsUptoSaid : Prop := proveHoldsUptoRow.holds Try.pinned (OpenSpec.upto proveHoldsSpec)

/-- 'wordhoardlaw.ProveSound', WHERE WHAT IT READS IS OF BULK AT MOST 1048576: true; the input reads as it did. -/
def proveSoundUptoRow : OpenClaim := { program := "ytcmnjoepadjioaa", sum := "61c991214aac2a47453236400da2cd73efa298b16ce19d05244dc402aba512db", func := "wordhoard/wordhoardlaw.ProveSound", spec := "proveSound", unfollowed := true, recurses := true, plainKeys := false, apart := false, narrowed := true }
def ProveSoundUptoSaid : Prop := proveSoundUptoRow.holds Try.pinned (OpenSpec.upto proveSoundSpec)

/-- 'wordhoardlaw.ProveArgues', WHERE WHAT IT READS IS OF BULK AT MOST 1048576: true; the input reads as it did. -/
def proveArguesUptoRow : OpenClaim := { program := "ytcmnjoepadjioaa", sum := "61c991214aac2a47453236400da2cd73efa298b16ce19d05244dc402aba512db", func := "wordhoard/wordhoardlaw.ProveArgues", spec := "proveArgues", unfollowed := true, recurses := true, plainKeys := false, apart := false, narrowed := true }
def ProveArguesUptoSaid : Prop := proveArguesUptoRow.holds Try.pinned (OpenSpec.upto proveArguesSpec)

/-- 'wordhoardlaw.ProveComplete', WHERE WHAT IT READS IS OF BULK AT MOST 1048576: true; the input reads as it did. -/
def proveCompleteUptoRow : OpenClaim := { program := "ytcmnjoepadjioaa", sum := "61c991214aac2a47453236400da2cd73efa298b16ce19d05244dc402aba512db", func := "wordhoard/wordhoardlaw.ProveComplete", spec := "proveComplete", unfollowed := true, recurses := true, plainKeys := false, apart := false, narrowed := true }
def ProveCompleteUptoSaid : Prop := proveCompleteUptoRow.holds Try.pinned (OpenSpec.upto proveCompleteSpec)

end Rows
end Go.Proofs.Ytcmnjoepadjioaa
