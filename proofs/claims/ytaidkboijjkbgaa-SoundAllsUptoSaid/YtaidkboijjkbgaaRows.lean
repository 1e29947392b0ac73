/-
  No cell of these rows narrows 'for every input' (looked for: loops, veiled, ifaces, maps, wideKeys, modest, calm, conditions, laid).
  DERIVED. THE GIVEN ROWS OF THIS SEAT. 4 by the template 'for every input the law returns true; each argument reads behind the call as it read before'; 0 by the template 'total and deterministic' (their statements: YtaidkboijjkbgaaTotals.lean).
  GIVEN WITH THE SEED: the statements are not yours to turn. If you find one false, say at which input.
  Laid BY PROGRAM, IN A SANDBOX (cutbox-rows.mjs): the forced cells as the released guide's own fill.sh prints them over the translation 1f197b503990c4e1… (all of the seat's roots in one cut). By AI agents, Wed Nov 11 2026. No macro, syntax, notation, axiom, sorry.
-/
import Derived.Test.YtaidkboijjkbgaaChecked
import GoSem.Claim
import GoSem.ClaimJoined
import GoSem.ClaimMapViews
import Derived.JoinedTies
import Derived.KernelRfl
namespace Go.Proofs.Ytaidkboijjkbgaa
/- THE CELL 'sum', in the pinned program and in every row, IS THE sha256 OF THE DUMP (.gsa) THAT YtaidkboijjkbgaaProg.lean LOADS. Nothing in Lean hashes anything: it is a label: what it is worth is what the hold of that sum in a sandbox is worth. -/
noncomputable def Try.pinned : Pinned := { name := "ytaidkboijjkbgaa", sum := "1f197b503990c4e1141d1e4b0c10e6e31320346283b42aadbe2233952d53bcc2", checked := Try.checked }
namespace Rows
def none {H : Type} : Left H := { results := [], args := [] }

/-- 'wordhoardlaw.SoundApplies': WHATEVER THE INPUT: true; the input reads as it did. -/
def soundAppliesSpec : ChangeSpec := { name := "soundApplies", fn := fun _ => fun
  | [d1, d2] => { results := [.lit (.bool true)], args := [d1, d2] }
  | _ => none }
def soundAppliesRow : OpenClaim := { program := "ytaidkboijjkbgaa", sum := "1f197b503990c4e1141d1e4b0c10e6e31320346283b42aadbe2233952d53bcc2", func := "wordhoard/wordhoardlaw.SoundApplies", spec := "soundApplies", unfollowed := true, recurses := true, apart := false }
def SoundAppliesSaid : Prop := soundAppliesRow.holds Try.pinned (OpenSpec.ofChange soundAppliesSpec)

/-- ITS FALSE NEIGHBOUR: 'it returns false'. Refute it at one input. -/
def soundAppliesWrong : ChangeSpec := { name := "soundApplies", fn := fun _ => fun
  | [d1, d2] => { results := [.lit (.bool false)], args := [d1, d2] }
  | _ => none }
def SoundAppliesWrongFalsely : Prop := soundAppliesRow.holds Try.pinned (OpenSpec.ofChange soundAppliesWrong)

/-- 'wordhoardlaw.SoundAlls': WHATEVER THE INPUT: true; the input reads as it did. -/
def soundAllsSpec : ChangeSpec := { name := "soundAlls", fn := fun _ => fun
  | [d1, d2] => { results := [.lit (.bool true)], args := [d1, d2] }
  | _ => none }
def soundAllsRow : OpenClaim := { program := "ytaidkboijjkbgaa", sum := "1f197b503990c4e1141d1e4b0c10e6e31320346283b42aadbe2233952d53bcc2", func := "wordhoard/wordhoardlaw.SoundAlls", spec := "soundAlls", unfollowed := true, recurses := true, apart := false }
def SoundAllsSaid : Prop := soundAllsRow.holds Try.pinned (OpenSpec.ofChange soundAllsSpec)

/-- ITS FALSE NEIGHBOUR: 'it returns false'. Refute it at one input. -/
def soundAllsWrong : ChangeSpec := { name := "soundAlls", fn := fun _ => fun
  | [d1, d2] => { results := [.lit (.bool false)], args := [d1, d2] }
  | _ => none }
def SoundAllsWrongFalsely : Prop := soundAllsRow.holds Try.pinned (OpenSpec.ofChange soundAllsWrong)

/-- 'wordhoardlaw.FormTurns': WHATEVER THE INPUT: true; the input reads as it did. -/
def formTurnsSpec : ChangeSpec := { name := "formTurns", fn := fun _ => fun
  | [d1, d2, d3] => { results := [.lit (.bool true)], args := [d1, d2, d3] }
  | _ => none }
def formTurnsRow : OpenClaim := { program := "ytaidkboijjkbgaa", sum := "1f197b503990c4e1141d1e4b0c10e6e31320346283b42aadbe2233952d53bcc2", func := "wordhoard/wordhoardlaw.FormTurns", spec := "formTurns", unfollowed := true, recurses := true, apart := false }
def FormTurnsSaid : Prop := formTurnsRow.holds Try.pinned (OpenSpec.ofChange formTurnsSpec)

/-- ITS FALSE NEIGHBOUR: 'it returns false'. Refute it at one input. -/
def formTurnsWrong : ChangeSpec := { name := "formTurns", fn := fun _ => fun
  | [d1, d2, d3] => { results := [.lit (.bool false)], args := [d1, d2, d3] }
  | _ => none }
def FormTurnsWrongFalsely : Prop := formTurnsRow.holds Try.pinned (OpenSpec.ofChange formTurnsWrong)

/-- 'wordhoardlaw.FormMakes': WHATEVER THE INPUT: true; the input reads as it did. -/
def formMakesSpec : ChangeSpec := { name := "formMakes", fn := fun _ => fun
  | [d1, d2, d3, d4] => { results := [.lit (.bool true)], args := [d1, d2, d3, d4] }
  | _ => none }
def formMakesRow : OpenClaim := { program := "ytaidkboijjkbgaa", sum := "1f197b503990c4e1141d1e4b0c10e6e31320346283b42aadbe2233952d53bcc2", func := "wordhoard/wordhoardlaw.FormMakes", spec := "formMakes", unfollowed := true, recurses := true, apart := false }
def FormMakesSaid : Prop := formMakesRow.holds Try.pinned (OpenSpec.ofChange formMakesSpec)

/-- ITS FALSE NEIGHBOUR: 'it returns false'. Refute it at one input. -/
def formMakesWrong : ChangeSpec := { name := "formMakes", fn := fun _ => fun
  | [d1, d2, d3, d4] => { results := [.lit (.bool false)], args := [d1, d2, d3, d4] }
  | _ => none }
def FormMakesWrongFalsely : Prop := formMakesRow.holds Try.pinned (OpenSpec.ofChange formMakesWrong)

/- THE SECOND FORM. 'bulk': how many values and letters a reading holds, each counted each time it is reached (what is shared counts as often as it is met; a slice's spare places count too). A statement '..UptoSaid' is the law's where the arguments, and the package variables that the reading takes, are together of bulk at most 1048576: NARROWER than '..Said'. Prove '..Said' where nothing that the law and all that it calls make is longer than what came in: it says more and counts as full. Else prove '..UptoSaid'. A law counts once. -/
mutual
def uptoBulk {H : Type} : DataW H → Nat
  | .lit (.string bytes) => bytes.length + 1
  | .lit _ => 1
  | .nil => 1
  | .ptr d => uptoBulk d + 1
  | .slice elems spare => uptoBulkAll elems + uptoBulkAll spare + 1
  | .agg parts => uptoBulkAll parts + 1
  | .iface _ d => uptoBulk d + 1
  | .map entries => uptoBulkEntries entries + 1
  | .held _ => 1
def uptoBulkAll {H : Type} : List (DataW H) → Nat
  | [] => 0
  | d :: r => uptoBulk d + uptoBulkAll r
def uptoBulkEntries {H : Type} : List (Lit × DataW H) → Nat
  | [] => 0
  | x :: r => uptoBulkEntry x + uptoBulkEntries r
def uptoBulkEntry {H : Type} : Lit × DataW H → Nat
  | (.string bytes, d) => bytes.length + uptoBulk d + 1
  | (_, d) => uptoBulk d + 1
 end
def uptoSmall : (H : Type) → List (DataW H) → Bool := fun _ ds => decide (uptoBulkAll ds ≤ 1048576)
def OpenSpec.upto (s : _root_.Go.ChangeSpec) : _root_.Go.OpenSpec := { _root_.Go.OpenSpec.ofChange s with cond := some uptoSmall }

/-- 'wordhoardlaw.SoundApplies', WHERE WHAT IT READS IS OF BULK AT MOST 1048576: true; the input reads as it did. -/
def soundAppliesUptoRow : OpenClaim := { program := "ytaidkboijjkbgaa", sum := "1f197b503990c4e1141d1e4b0c10e6e31320346283b42aadbe2233952d53bcc2", func := "wordhoard/wordhoardlaw.SoundApplies", spec := "soundApplies", unfollowed := true, recurses := true, apart := false, narrowed := true }
def SoundAppliesUptoSaid : Prop := soundAppliesUptoRow.holds Try.pinned (OpenSpec.upto soundAppliesSpec)

/-- 'wordhoardlaw.SoundAlls', WHERE WHAT IT READS IS OF BULK AT MOST 1048576: true; the input reads as it did. -/
def soundAllsUptoRow : OpenClaim := { program := "ytaidkboijjkbgaa", sum := "1f197b503990c4e1141d1e4b0c10e6e31320346283b42aadbe2233952d53bcc2", func := "wordhoard/wordhoardlaw.SoundAlls", spec := "soundAlls", unfollowed := true, recurses := true, apart := false, narrowed := true }
def SoundAllsUptoSaid : Prop := soundAllsUptoRow.holds Try.pinned (OpenSpec.upto soundAllsSpec)

/-- 'wordhoardlaw.FormTurns', WHERE WHAT IT READS IS OF BULK AT MOST 1048576: true; the input reads as it did. -/
def formTurnsUptoRow : OpenClaim := { program := "ytaidkboijjkbgaa", sum := "1f197b503990c4e1141d1e4b0c10e6e31320346283b42aadbe2233952d53bcc2", func := "wordhoard/wordhoardlaw.FormTurns", spec := "formTurns", unfollowed := true, recurses := true, apart := false, narrowed := true }
def FormTurnsUptoSaid : Prop := formTurnsUptoRow.holds Try.pinned (OpenSpec.upto formTurnsSpec)

/-- 'wordhoardlaw.FormMakes', WHERE WHAT IT READS IS OF BULK AT MOST 1048576: true; the input reads as it did. -/
def formMakesUptoRow : OpenClaim := { program := "ytaidkboijjkbgaa", sum := "1f197b503990c4e1141d1e4b0c10e6e31320346283b42aadbe2233952d53bcc2", func := "wordhoard/wordhoardlaw.FormMakes", spec := "formMakes", unfollowed := true, recurses := true, apart := false, narrowed := true }
def FormMakesUptoSaid : Prop := formMakesUptoRow.holds Try.pinned (OpenSpec.upto formMakesSpec)

end Rows
end Go.Proofs.Ytaidkboijjkbgaa
