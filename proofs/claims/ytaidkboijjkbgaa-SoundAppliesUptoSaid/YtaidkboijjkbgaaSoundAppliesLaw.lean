/- The law SoundApplies holds: whatever comes in, the call returns true and its arguments read as they did. Condition: what comes in is of bulk at most 1048576 (the given '..UptoSaid'). -/
import Derived.Test.YtaidkboijjkbgaaLSA
import Derived.Test.YtaidkboijjkbgaaRo
namespace Go.Proofs.Ytaidkboijjkbgaa.soundApplies
open Go.ChangeShapes Go.WideShapes Go.ChangeAt Go.RowKit
open Go.ChangeMaps (open_string shut_string)

theorem contract (H : Type) (enc : TypeId × Value → H) (W : World) (base : Nat) (args : Array Value) (ds gs : List (DataW H)) (before : List MemPlace)
    (hval : ∀ (j : Nat) t v, Try.f3.params[j]? = some t → args[j]? = some v → Value.okWide Try.prog W .any base t v)
    (hW : DataW.Whole enc Try.prog Try.f3.params.toList Rows.soundAppliesSpec.vars false W args.toList ds gs before) (hk : Rows.uptoSmall H (ds ++ gs) = true) :
    Calls Try.prog 3 args W fun e W' => ∃ v, e = .returned v ∧ Rows.soundAppliesSpec.post enc Try.prog Try.f3 false true false false W args v W' := by
  have hW' := hW
  obtain ⟨p, q, hA0, hV, rfl, hfz, hnd⟩ := hW
  have hA : DataW.TrodAll enc Try.prog W 0 (fun _ => true) true Try.f3.params.toList args.toList ds p := hA0
  rw [Try.params3] at hA hval
  obtain ⟨v0, v1, d0, d1, p0, p1, rfl, rfl, rfl, h0, h1⟩ := trodAll_two hA
  obtain ⟨rfl, rfl⟩ := trodVars_none hV
  obtain ⟨cs0, x0, rfl, hs0, hb0⟩ := arg_struct opens_change Try.underlying25 (hval 0 25 v0 rfl rfl) h0
  obtain ⟨A1, c1, x1, rfl, hs1, hb1⟩ := arg_slice opens_ints Try.underlying22 (hval 1 22 v1 rfl rfl) h1
  have hbulk : Rows.uptoBulkAll ([d0, d1] ++ []) ≤ 1048576 := of_decide_eq_true hk
  simp only [List.append_nil, Rows.uptoBulkAll, Rows.uptoBulk] at hbulk
  obtain ⟨Af, cf, At, ct, Al, cl, Ar, cr, hcs, hki, hf, ht, hl, hr⟩ := change_open hs0
  obtain rfl : cs0 = #[.int .i64 x0.1, .slice Af x0.2.1.length cf, .slice At x0.2.2.1.length ct, .slice Al x0.2.2.2.1.length cl, .slice Ar x0.2.2.2.2.length cr] := Array.toList_inj.1 hcs
  have hlr := change_bulk x0
  refine (lawApplies_any (fun b => b < W.heap.size) x0.1 x0.2.1 x0.2.2.1 x0.2.2.2.1 x0.2.2.2.2 Af At Al Ar cf ct cl cr x1 A1 c1 W hf ht hl hr hs1 (fun _ h => h) (by omega)).mono fun e W' ⟨he, hg⟩ => ?_
  subst he
  exact ⟨_, rfl, post_true rfl Try.underlying4 rfl laidOut (by kernel_rfl) hW' rfl hg⟩

set_option maxRecDepth 100000 in
theorem lifted (os : Os) (started : os.Started) (H : Type) (enc : TypeId × Value → H) (F : Stop.Interp) :
    ReturnsInHanded {} Try.checked os 3 .any ((Rows.OpenSpec.upto Rows.soundAppliesSpec).pre6 enc Try.prog Try.f3 Rows.soundAppliesUptoRow.domain false) (((Rows.OpenSpec.upto Rows.soundAppliesSpec).at F).post enc Try.prog Try.f3 false true false false) := by
  refine returnsInHanded_of_cond (C := Try.checked) (s := Rows.OpenSpec.upto Rows.soundAppliesSpec) (k := Rows.uptoSmall) rfl own started (by kernel_rfl) Try.func3
    (OpenSpec.witness (enc := enc) (C := Try.checked) (s := Rows.OpenSpec.upto Rows.soundAppliesSpec) (k := Rows.uptoSmall) rfl false ⟨#[], #[.agg #[.int .i64 0, .slice none 0 0, .slice none 0 0, .slice none 0 0, .slice none 0 0], .slice none 0 0], []⟩ 8 (by kernel_rfl) (by kernel_rfl) (by kernel_rfl)
      (x := ([.agg [.lit (.int .i64 0), .nil, .nil, .nil, .nil], .nil], [], [])) (by kernel_rfl) rfl (by kernel_rfl)) ?_
  intro W base args ds gs before hval hW _ hk _
  exact contract H enc W base args ds gs before hval hW hk

theorem proved : Rows.SoundAppliesUptoSaid :=
  OpenClaim.holds_of_cond 3 Try.f3 rfl rfl rfl rfl rfl rfl rfl ⟨rfl, rfl, rfl, rfl, rfl⟩ rfl rfl rfl rfl rfl (by kernel_rfl) Try.func3 (by kernel_rfl)
    (of_decide_eq_true (by kernel_rfl)) (by unfold Func.isWrapper; first | (rw [if_pos (by decide +kernel)]; kernel_rfl) | (rw [if_neg (by decide +kernel)]; exact ⟨rfl, rfl⟩))
    (fun os started H enc _ F => lifted os started H enc F)
end Go.Proofs.Ytaidkboijjkbgaa.soundApplies
