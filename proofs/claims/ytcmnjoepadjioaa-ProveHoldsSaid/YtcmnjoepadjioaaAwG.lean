/- Abstract walks at this translation. -/
import Derived.Test.YtcmnjoepadjioaaAwF
namespace Go.Proofs.Ytcmnjoepadjioaa
open Go.RowKit
theorem mixed : Try.prog.follows .mixedOrders = true := by kernel_rfl
end Go.Proofs.Ytcmnjoepadjioaa
