/-
  NARROWER THAN 'FOR EVERY INPUT', by the rows' own cells (each row's printed sentence says how): TermNormal: loops · TermSteps: loops · TermTypes: loops · TermChurch: loops.
  DERIVED. THE GIVEN ROWS OF THIS SEAT. 4 by the template 'for every input the law returns true; each argument reads behind the call as it read before'; 0 by the template 'total and deterministic' (their statements: YtkocpdekknfmaaaTotals.lean).
  GIVEN WITH THE SEED: the statements are not yours to turn. If you find one false, say at which input.
  Laid BY PROGRAM, IN A SANDBOX (cutbox-rows.mjs): the forced cells as the released guide's own fill.sh prints them over the translation 8139c5e0dd8065f1… (all of the seat's roots in one cut). By AI agents, Wed Nov 11 2026. No macro, syntax, notation, axiom, sorry.
-/
import Derived.Test.YtkocpdekknfmaaaChecked
import GoSem.Claim
import GoSem.ClaimJoined
import GoSem.ClaimMapViews
import Derived.JoinedTies
import Derived.KernelRfl
namespace Go.Proofs.Ytkocpdekknfmaaa
/- THE CELL 'sum', in the pinned program and in every row, IS THE sha256 OF THE DUMP (.gsa) THAT YtkocpdekknfmaaaProg.lean LOADS. Nothing in Lean hashes anything: it is a label: what it is worth is what the hold of that sum in a sandbox is worth. -/
noncomputable def Try.pinned : Pinned := { name := "ytkocpdekknfmaaa", sum := "8139c5e0dd8065f15e462c54b431ff2aed226c097cb861b2fd9af96c3086e2e9", checked := Try.checked }
namespace Rows
def none {H : Type} : Left H := { results := [], args := [] }

/-- 'wordhoardlaw.TermNormal': WHATEVER THE INPUT: true; the input reads as it did. -/
def termNormalSpec : ChangeSpec := { name := "termNormal", fn := fun _ => fun
  | [d] => { results := [.lit (.bool true)], args := [d] }
  | _ => none }
def termNormalRow : OpenClaim := { program := "ytkocpdekknfmaaa", sum := "8139c5e0dd8065f15e462c54b431ff2aed226c097cb861b2fd9af96c3086e2e9", func := "wordhoard/wordhoardlaw.TermNormal", spec := "termNormal", unfollowed := true, recurses := true, loops := true, apart := false }
def TermNormalSaid : Prop := termNormalRow.holds Try.pinned (OpenSpec.ofChange termNormalSpec)

/-- ITS FALSE NEIGHBOUR: 'it returns false'. Refute it at one input. -/
def termNormalWrong : ChangeSpec := { name := "termNormal", fn := fun _ => fun
  | [d] => { results := [.lit (.bool false)], args := [d] }
  | _ => none }
def TermNormalWrongFalsely : Prop := termNormalRow.holds Try.pinned (OpenSpec.ofChange termNormalWrong)

/-- 'wordhoardlaw.TermSteps': WHATEVER THE INPUT: true; the input reads as it did. -/
def termStepsSpec : ChangeSpec := { name := "termSteps", fn := fun _ => fun
  | [d1, d2] => { results := [.lit (.bool true)], args := [d1, d2] }
  | _ => none }
def termStepsRow : OpenClaim := { program := "ytkocpdekknfmaaa", sum := "8139c5e0dd8065f15e462c54b431ff2aed226c097cb861b2fd9af96c3086e2e9", func := "wordhoard/wordhoardlaw.TermSteps", spec := "termSteps", unfollowed := true, recurses := true, loops := true, apart := false }
def TermStepsSaid : Prop := termStepsRow.holds Try.pinned (OpenSpec.ofChange termStepsSpec)

/-- ITS FALSE NEIGHBOUR: 'it returns false'. Refute it at one input. -/
def termStepsWrong : ChangeSpec := { name := "termSteps", fn := fun _ => fun
  | [d1, d2] => { results := [.lit (.bool false)], args := [d1, d2] }
  | _ => none }
def TermStepsWrongFalsely : Prop := termStepsRow.holds Try.pinned (OpenSpec.ofChange termStepsWrong)

/-- 'wordhoardlaw.TermTypes': WHATEVER THE INPUT: true; the input reads as it did. -/
def termTypesSpec : ChangeSpec := { name := "termTypes", fn := fun _ => fun
  | [d1, d2] => { results := [.lit (.bool true)], args := [d1, d2] }
  | _ => none }
def termTypesRow : OpenClaim := { program := "ytkocpdekknfmaaa", sum := "8139c5e0dd8065f15e462c54b431ff2aed226c097cb861b2fd9af96c3086e2e9", func := "wordhoard/wordhoardlaw.TermTypes", spec := "termTypes", unfollowed := true, recurses := true, loops := true, apart := false }
def TermTypesSaid : Prop := termTypesRow.holds Try.pinned (OpenSpec.ofChange termTypesSpec)

/-- ITS FALSE NEIGHBOUR: 'it returns false'. Refute it at one input. -/
def termTypesWrong : ChangeSpec := { name := "termTypes", fn := fun _ => fun
  | [d1, d2] => { results := [.lit (.bool false)], args := [d1, d2] }
  | _ => none }
def TermTypesWrongFalsely : Prop := termTypesRow.holds Try.pinned (OpenSpec.ofChange termTypesWrong)

/-- 'wordhoardlaw.TermChurch': WHATEVER THE INPUT: true; the input reads as it did. -/
def termChurchSpec : ChangeSpec := { name := "termChurch", fn := fun _ => fun
  | [d1, d2, d3] => { results := [.lit (.bool true)], args := [d1, d2, d3] }
  | _ => none }
def termChurchRow : OpenClaim := { program := "ytkocpdekknfmaaa", sum := "8139c5e0dd8065f15e462c54b431ff2aed226c097cb861b2fd9af96c3086e2e9", func := "wordhoard/wordhoardlaw.TermChurch", spec := "termChurch", unfollowed := true, recurses := true, loops := true, apart := false }
def TermChurchSaid : Prop := termChurchRow.holds Try.pinned (OpenSpec.ofChange termChurchSpec)

/-- ITS FALSE NEIGHBOUR: 'it returns false'. Refute it at one input. -/
def termChurchWrong : ChangeSpec := { name := "termChurch", fn := fun _ => fun
  | [d1, d2, d3] => { results := [.lit (.bool false)], args := [d1, d2, d3] }
  | _ => none }
def TermChurchWrongFalsely : Prop := termChurchRow.holds Try.pinned (OpenSpec.ofChange termChurchWrong)

/- THE SECOND FORM. 'bulk': how many values and letters a reading holds, each counted each time it is reached (what is shared counts as often as it is met; a slice's spare places count too). A statement '..UptoSaid' is the law's where the arguments, and the package variables that the reading takes, are together of bulk at most 1048576: NARROWER than '..Said'. Prove '..Said' where nothing that the law and all that it calls make is longer than what came in: it says more and counts as full. Else prove '..UptoSaid'. A law counts once. -/
mutual
def uptoBulk {H : Type} : DataW H → Nat
  | .lit (.string bytes) => bytes.length + 1
  | .lit _ => 1
  | .nil => 1
  | .ptr d => uptoBulk d + 1
  | .slice elems spare => uptoBulkAll elems + uptoBulkAll spare + 1
  | .agg parts => uptoBulkAll parts + 1
  | .iface _ d => uptoBulk d + 1
  | .map entries => uptoBulkEntries entries + 1
  | .held _ => 1
def uptoBulkAll {H : Type} : List (DataW H) → Nat
  | [] => 0
  | d :: r => uptoBulk d + uptoBulkAll r
def uptoBulkEntries {H : Type} : List (Lit × DataW H) → Nat
  | [] => 0
  | x :: r => uptoBulkEntry x + uptoBulkEntries r
def uptoBulkEntry {H : Type} : Lit × DataW H → Nat
  | (.string bytes, d) => bytes.length + uptoBulk d + 1
  | (_, d) => uptoBulk d + 1
 end
def uptoSmall : (H : Type) → List (DataW H) → Bool := fun _ ds => decide (uptoBulkAll ds ≤ 1048576)
def OpenSpec.upto (s : _root_.Go.ChangeSpec) : _root_.Go.OpenSpec := { _root_.Go.OpenSpec.ofChange s with cond := some uptoSmall }

/-- 'wordhoardlaw.TermNormal', WHERE WHAT IT READS IS OF BULK AT MOST 1048576: true; the input reads as it did. -/
def termNormalUptoRow : OpenClaim := { program := "ytkocpdekknfmaaa", sum := "8139c5e0dd8065f15e462c54b431ff2aed226c097cb861b2fd9af96c3086e2e9", func := "wordhoard/wordhoardlaw.TermNormal", spec := "termNormal", unfollowed := true, recurses := true, loops := true, apart := false, narrowed := true }
def TermNormalUptoSaid : Prop := termNormalUptoRow.holds Try.pinned (OpenSpec.upto termNormalSpec)

/-- 'wordhoardlaw.TermSteps', WHERE WHAT IT READS IS OF BULK AT MOST 1048576: true; the input reads as it did. -/
def termStepsUptoRow : OpenClaim := { program := "ytkocpdekknfmaaa", sum := "8139c5e0dd8065f15e462c54b431ff2aed226c097cb861b2fd9af96c3086e2e9", func := "wordhoard/wordhoardlaw.TermSteps", spec := "termSteps", unfollowed := true, recurses := true, loops := true, apart := false, narrowed := true }
def TermStepsUptoSaid : Prop := termStepsUptoRow.holds Try.pinned (OpenSpec.upto termStepsSpec)

/-- 'wordhoardlaw.TermTypes', WHERE WHAT IT READS IS OF BULK AT MOST 1048576: true; the input reads as it did. -/
def termTypesUptoRow : OpenClaim := { program := "ytkocpdekknfmaaa", sum := "8139c5e0dd8065f15e462c54b431ff2aed226c097cb861b2fd9af96c3086e2e9", func := "wordhoard/wordhoardlaw.TermTypes", spec := "termTypes", unfollowed := true, recurses := true, loops := true, apart := false, narrowed := true }
def TermTypesUptoSaid : Prop := termTypesUptoRow.holds Try.pinned (OpenSpec.upto termTypesSpec)

/-- 'wordhoardlaw.TermChurch', WHERE WHAT IT READS IS OF BULK AT MOST 1048576: true; the input reads as it did. -/
def termChurchUptoRow : OpenClaim := { program := "ytkocpdekknfmaaa", sum := "8139c5e0dd8065f15e462c54b431ff2aed226c097cb861b2fd9af96c3086e2e9", func := "wordhoard/wordhoardlaw.TermChurch", spec := "termChurch", unfollowed := true, recurses := true, loops := true, apart := false, narrowed := true }
def TermChurchUptoSaid : Prop := termChurchUptoRow.holds Try.pinned (OpenSpec.upto termChurchSpec)

end Rows
end Go.Proofs.Ytkocpdekknfmaaa
