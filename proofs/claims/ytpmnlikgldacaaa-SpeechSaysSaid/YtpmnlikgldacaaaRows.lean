/-
  NARROWER THAN 'FOR EVERY INPUT', by the rows' own cells (each row's printed sentence says how): SpeechProves: loops · SpeechSays: loops · SpeechParts: loops · SpeechRight: loops · SpeechCutless: loops · SpeechLambek: loops.
  DERIVED. THE GIVEN ROWS OF THIS SEAT. 6 by the template 'for every input the law returns true; each argument reads behind the call as it read before'; 0 by the template 'total and deterministic' (their statements: YtpmnlikgldacaaaTotals.lean).
  GIVEN WITH THE SEED: the statements are not yours to turn. If you find one false, say at which input.
  Laid BY PROGRAM, IN A SANDBOX (cutbox-rows.mjs): the forced cells as the released guide's own fill.sh prints them over the translation 89e8dc40ec46028e… (all of the seat's roots in one cut). By AI agents, Wed Nov 11 2026. No macro, syntax, notation, axiom, sorry.
-/
import Derived.Test.YtpmnlikgldacaaaChecked
import GoSem.Claim
import GoSem.ClaimJoined
import GoSem.ClaimMapViews
import Derived.JoinedTies
import Derived.KernelRfl
namespace Go.Proofs.Ytpmnlikgldacaaa
/- THE CELL 'sum', in the pinned program and in every row, IS THE sha256 OF THE DUMP (.gsa) THAT YtpmnlikgldacaaaProg.lean LOADS. Nothing in Lean hashes anything: it is a label: what it is worth is what the hold of that sum in a sandbox is worth. -/
noncomputable def Try.pinned : Pinned := { name := "ytpmnlikgldacaaa", sum := "89e8dc40ec46028ed42c1776cb421fc448ed7bcaeece6925e3619a34ad758795", checked := Try.checked }
namespace Rows
def none {H : Type} : Left H := { results := [], args := [] }

/-- 'wordhoardlaw.SpeechProves': WHATEVER THE INPUT: true; the input reads as it did. -/
def speechProvesSpec : ChangeSpec := { name := "speechProves", fn := fun _ => fun
  | [d1, d2] => { results := [.lit (.bool true)], args := [d1, d2] }
  | _ => none }
def speechProvesRow : OpenClaim := { program := "ytpmnlikgldacaaa", sum := "89e8dc40ec46028ed42c1776cb421fc448ed7bcaeece6925e3619a34ad758795", func := "wordhoard/wordhoardlaw.SpeechProves", spec := "speechProves", inPlace := ["internal/abi.NoEscape"], unfollowed := true, recurses := true, loops := true, apart := false }
def SpeechProvesSaid : Prop := speechProvesRow.holds Try.pinned (OpenSpec.ofChange speechProvesSpec)

/-- ITS FALSE NEIGHBOUR: 'it returns false'. Refute it at one input. -/
def speechProvesWrong : ChangeSpec := { name := "speechProves", fn := fun _ => fun
  | [d1, d2] => { results := [.lit (.bool false)], args := [d1, d2] }
  | _ => none }
def SpeechProvesWrongFalsely : Prop := speechProvesRow.holds Try.pinned (OpenSpec.ofChange speechProvesWrong)

/-- 'wordhoardlaw.SpeechSays': WHATEVER THE INPUT: true; the input reads as it did. -/
def speechSaysSpec : ChangeSpec := { name := "speechSays", fn := fun _ => fun
  | [d1, d2] => { results := [.lit (.bool true)], args := [d1, d2] }
  | _ => none }
def speechSaysRow : OpenClaim := { program := "ytpmnlikgldacaaa", sum := "89e8dc40ec46028ed42c1776cb421fc448ed7bcaeece6925e3619a34ad758795", func := "wordhoard/wordhoardlaw.SpeechSays", spec := "speechSays", inPlace := ["internal/abi.NoEscape"], unfollowed := true, recurses := true, loops := true, apart := false }
def SpeechSaysSaid : Prop := speechSaysRow.holds Try.pinned (OpenSpec.ofChange speechSaysSpec)

/-- ITS FALSE NEIGHBOUR: 'it returns false'. Refute it at one input. -/
def speechSaysWrong : ChangeSpec := { name := "speechSays", fn := fun _ => fun
  | [d1, d2] => { results := [.lit (.bool false)], args := [d1, d2] }
  | _ => none }
def SpeechSaysWrongFalsely : Prop := speechSaysRow.holds Try.pinned (OpenSpec.ofChange speechSaysWrong)

/-- 'wordhoardlaw.SpeechParts': WHATEVER THE INPUT: true; the input reads as it did. -/
def speechPartsSpec : ChangeSpec := { name := "speechParts", fn := fun _ => fun
  | [d1, d2] => { results := [.lit (.bool true)], args := [d1, d2] }
  | _ => none }
def speechPartsRow : OpenClaim := { program := "ytpmnlikgldacaaa", sum := "89e8dc40ec46028ed42c1776cb421fc448ed7bcaeece6925e3619a34ad758795", func := "wordhoard/wordhoardlaw.SpeechParts", spec := "speechParts", inPlace := ["internal/abi.NoEscape"], unfollowed := true, recurses := true, loops := true, apart := false }
def SpeechPartsSaid : Prop := speechPartsRow.holds Try.pinned (OpenSpec.ofChange speechPartsSpec)

/-- ITS FALSE NEIGHBOUR: 'it returns false'. Refute it at one input. -/
def speechPartsWrong : ChangeSpec := { name := "speechParts", fn := fun _ => fun
  | [d1, d2] => { results := [.lit (.bool false)], args := [d1, d2] }
  | _ => none }
def SpeechPartsWrongFalsely : Prop := speechPartsRow.holds Try.pinned (OpenSpec.ofChange speechPartsWrong)

/-- 'wordhoardlaw.SpeechRight': WHATEVER THE INPUT: true; the input reads as it did. -/
def speechRightSpec : ChangeSpec := { name := "speechRight", fn := fun _ => fun
  | [d] => { results := [.lit (.bool true)], args := [d] }
  | _ => none }
def speechRightRow : OpenClaim := { program := "ytpmnlikgldacaaa", sum := "89e8dc40ec46028ed42c1776cb421fc448ed7bcaeece6925e3619a34ad758795", func := "wordhoard/wordhoardlaw.SpeechRight", spec := "speechRight", inPlace := ["internal/abi.NoEscape"], unfollowed := true, recurses := true, loops := true, apart := false }
def SpeechRightSaid : Prop := speechRightRow.holds Try.pinned (OpenSpec.ofChange speechRightSpec)

/-- ITS FALSE NEIGHBOUR: 'it returns false'. Refute it at one input. -/
def speechRightWrong : ChangeSpec := { name := "speechRight", fn := fun _ => fun
  | [d] => { results := [.lit (.bool false)], args := [d] }
  | _ => none }
def SpeechRightWrongFalsely : Prop := speechRightRow.holds Try.pinned (OpenSpec.ofChange speechRightWrong)

/-- 'wordhoardlaw.SpeechCutless': WHATEVER THE INPUT: true; the input reads as it did. -/
def speechCutlessSpec : ChangeSpec := { name := "speechCutless", fn := fun _ => fun
  | [d] => { results := [.lit (.bool true)], args := [d] }
  | _ => none }
def speechCutlessRow : OpenClaim := { program := "ytpmnlikgldacaaa", sum := "89e8dc40ec46028ed42c1776cb421fc448ed7bcaeece6925e3619a34ad758795", func := "wordhoard/wordhoardlaw.SpeechCutless", spec := "speechCutless", inPlace := ["internal/abi.NoEscape"], unfollowed := true, recurses := true, loops := true, apart := false }
def SpeechCutlessSaid : Prop := speechCutlessRow.holds Try.pinned (OpenSpec.ofChange speechCutlessSpec)

/-- ITS FALSE NEIGHBOUR: 'it returns false'. Refute it at one input. -/
def speechCutlessWrong : ChangeSpec := { name := "speechCutless", fn := fun _ => fun
  | [d] => { results := [.lit (.bool false)], args := [d] }
  | _ => none }
def SpeechCutlessWrongFalsely : Prop := speechCutlessRow.holds Try.pinned (OpenSpec.ofChange speechCutlessWrong)

/-- 'wordhoardlaw.SpeechLambek': WHATEVER THE INPUT: true; the input reads as it did. -/
def speechLambekSpec : ChangeSpec := { name := "speechLambek", fn := fun _ => fun
  | [d1, d2, d3, d4, d5] => { results := [.lit (.bool true)], args := [d1, d2, d3, d4, d5] }
  | _ => none }
def speechLambekRow : OpenClaim := { program := "ytpmnlikgldacaaa", sum := "89e8dc40ec46028ed42c1776cb421fc448ed7bcaeece6925e3619a34ad758795", func := "wordhoard/wordhoardlaw.SpeechLambek", spec := "speechLambek", inPlace := ["internal/abi.NoEscape"], unfollowed := true, recurses := true, loops := true, apart := false }
def SpeechLambekSaid : Prop := speechLambekRow.holds Try.pinned (OpenSpec.ofChange speechLambekSpec)

/-- ITS FALSE NEIGHBOUR: 'it returns false'. Refute it at one input. -/
def speechLambekWrong : ChangeSpec := { name := "speechLambek", fn := fun _ => fun
  | [d1, d2, d3, d4, d5] => { results := [.lit (.bool false)], args := [d1, d2, d3, d4, d5] }
  | _ => none }
def SpeechLambekWrongFalsely : Prop := speechLambekRow.holds Try.pinned (OpenSpec.ofChange speechLambekWrong)

/- THE SECOND FORM. 'bulk': how many values and letters a reading holds, each counted each time it is reached (what is shared counts as often as it is met; a slice's spare places count too). A statement '..UptoSaid' is the law's where the arguments, and the package variables that the reading takes, are together of bulk at most 1048576: NARROWER than '..Said'. Prove '..Said' where nothing that the law and all that it calls make is longer than what came in: it says more and counts as full. Else prove '..UptoSaid'. A law counts once. -/
mutual
def uptoBulk {H : Type} : DataW H → Nat
  | .lit (.string bytes) => bytes.length + 1
  | .lit _ => 1
  | .nil => 1
  | .ptr d => uptoBulk d + 1
  | .slice elems spare => uptoBulkAll elems + uptoBulkAll spare + 1
  | .agg parts => uptoBulkAll parts + 1
  | .iface _ d => uptoBulk d + 1
  | .map entries => uptoBulkEntries entries + 1
  | .held _ => 1
def uptoBulkAll {H : Type} : List (DataW H) → Nat
  | [] => 0
  | d :: r => uptoBulk d + uptoBulkAll r
def uptoBulkEntries {H : Type} : List (Lit × DataW H) → Nat
  | [] => 0
  | x :: r => uptoBulkEntry x + uptoBulkEntries r
def uptoBulkEntry {H : Type} : Lit × DataW H → Nat
  | (.string bytes, d) => bytes.length + uptoBulk d + 1
  | (_, d) => uptoBulk d + 1
 end
def uptoSmall : (H : Type) → List (DataW H) → Bool := fun _ ds => decide (uptoBulkAll ds ≤ 1048576)
def OpenSpec.upto (s : _root_.Go.ChangeSpec) : _root_.Go.OpenSpec := { _root_.Go.OpenSpec.ofChange s with cond := some uptoSmall }

/-- 'wordhoardlaw.SpeechProves', WHERE WHAT IT READS IS OF BULK AT MOST 1048576: true; the input reads as it did. -/
def speechProvesUptoRow : OpenClaim := { program := "ytpmnlikgldacaaa", sum := "89e8dc40ec46028ed42c1776cb421fc448ed7bcaeece6925e3619a34ad758795", func := "wordhoard/wordhoardlaw.SpeechProves", spec := "speechProves", inPlace := ["internal/abi.NoEscape"], unfollowed := true, recurses := true, loops := true, apart := false, narrowed := true }
def SpeechProvesUptoSaid : Prop := speechProvesUptoRow.holds Try.pinned (OpenSpec.upto speechProvesSpec)

/-- 'wordhoardlaw.SpeechSays', WHERE WHAT IT READS IS OF BULK AT MOST 1048576: true; the input reads as it did. -/
def speechSaysUptoRow : OpenClaim := { program := "ytpmnlikgldacaaa", sum := "89e8dc40ec46028ed42c1776cb421fc448ed7bcaeece6925e3619a34ad758795", func := "wordhoard/wordhoardlaw.SpeechSays", spec := "speechSays", inPlace := ["internal/abi.NoEscape"], unfollowed := true, recurses := true, loops := true, apart := false, narrowed := true }
def SpeechSaysUptoSaid : Prop := speechSaysUptoRow.holds Try.pinned (OpenSpec.upto speechSaysSpec)

/-- 'wordhoardlaw.SpeechParts', WHERE WHAT IT READS IS OF BULK AT MOST 1048576: true; the input reads as it did. -/
def speechPartsUptoRow : OpenClaim := { program := "ytpmnlikgldacaaa", sum := "89e8dc40ec46028ed42c1776cb421fc448ed7bcaeece6925e3619a34ad758795", func := "wordhoard/wordhoardlaw.SpeechParts", spec := "speechParts", inPlace := ["internal/abi.NoEscape"], unfollowed := true, recurses := true, loops := true, apart := false, narrowed := true }
def SpeechPartsUptoSaid : Prop := speechPartsUptoRow.holds Try.pinned (OpenSpec.upto speechPartsSpec)

/-- 'wordhoardlaw.SpeechRight', WHERE WHAT IT READS IS OF BULK AT MOST 1048576: true; the input reads as it did. -/
def speechRightUptoRow : OpenClaim := { program := "ytpmnlikgldacaaa", sum := "89e8dc40ec46028ed42c1776cb421fc448ed7bcaeece6925e3619a34ad758795", func := "wordhoard/wordhoardlaw.SpeechRight", spec := "speechRight", inPlace := ["internal/abi.NoEscape"], unfollowed := true, recurses := true, loops := true, apart := false, narrowed := true }
def SpeechRightUptoSaid : Prop := speechRightUptoRow.holds Try.pinned (OpenSpec.upto speechRightSpec)

/-- 'wordhoardlaw.SpeechCutless', WHERE WHAT IT READS IS OF BULK AT MOST 1048576: true; the input reads as it did. -/
def speechCutlessUptoRow : OpenClaim := { program := "ytpmnlikgldacaaa", sum := "89e8dc40ec46028ed42c1776cb421fc448ed7bcaeece6925e3619a34ad758795", func := "wordhoard/wordhoardlaw.SpeechCutless", spec := "speechCutless", inPlace := ["internal/abi.NoEscape"], unfollowed := true, recurses := true, loops := true, apart := false, narrowed := true }
def SpeechCutlessUptoSaid : Prop := speechCutlessUptoRow.holds Try.pinned (OpenSpec.upto speechCutlessSpec)

/-- 'wordhoardlaw.SpeechLambek', WHERE WHAT IT READS IS OF BULK AT MOST 1048576: true; the input reads as it did. -/
def speechLambekUptoRow : OpenClaim := { program := "ytpmnlikgldacaaa", sum := "89e8dc40ec46028ed42c1776cb421fc448ed7bcaeece6925e3619a34ad758795", func := "wordhoard/wordhoardlaw.SpeechLambek", spec := "speechLambek", inPlace := ["internal/abi.NoEscape"], unfollowed := true, recurses := true, loops := true, apart := false, narrowed := true }
def SpeechLambekUptoSaid : Prop := speechLambekUptoRow.holds Try.pinned (OpenSpec.upto speechLambekSpec)

end Rows
end Go.Proofs.Ytpmnlikgldacaaa
