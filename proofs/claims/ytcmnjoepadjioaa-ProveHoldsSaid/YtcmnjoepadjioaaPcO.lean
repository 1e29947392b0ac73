/- What comes into the laws of what follows: claims and lines, and that what comes in can be read so. -/
import Derived.Test.YtcmnjoepadjioaaPcB
namespace Go.Proofs.Ytcmnjoepadjioaa
open Go.RowKit
def rClm : Rep (Bool × Int × Int) := rPair rBool (rPair rInt rInt)
def toC (x : Bool × Int × Int) : Clm := ⟨x.1, x.2.1, x.2.2⟩
def Clm.i64 (c : Clm) : Prop := I64 c.a ∧ I64 c.b
theorem avs_clm : AvsG rClm toC Clm.cs Clm.i64 := (avs_bool.pair (avs_int.pair avs_int)).map (fun x => (⟨x.1, x.2.1, x.2.2⟩ : Clm)) Clm.cs Clm.i64 (fun _ => rfl) (fun _ h => h.2)
theorem opens_clm : Opens Try.prog 24 rClm :=
  opens_struct (l := [_, _, _]) Try.underlying24 rfl (opens_more rfl rfl (opens_bool Try.underlying4) (opens_more rfl rfl (opens_int Try.underlying3) (opens_last rfl rfl (opens_int Try.underlying3))))
theorem opens_clms : Opens Try.prog 32 (rList rClm) := opens_slice Try.underlying32 rfl (by decide) opens_clm
theorem opens_ints : Opens Try.prog 22 (rList rInt) := opens_slice Try.underlying22 rfl (by decide) (opens_int Try.underlying3)
end Go.Proofs.Ytcmnjoepadjioaa
