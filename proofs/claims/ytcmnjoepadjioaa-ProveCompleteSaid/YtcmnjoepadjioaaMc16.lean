/- The law ProveComplete holds: whatever comes in, the call returns true and its arguments read as they did. No condition. -/
import Derived.Test.YtcmnjoepadjioaaMc15
import Derived.JoinedOf
import Derived.JoinedAt

namespace Go.Proofs.Ytcmnjoepadjioaa.proveComplete
open Go.ChangeShapes Go.WideShapes Go.ChangeAt Go.RowKit
open Go.ChangeMaps (open_string shut_string)

theorem contract (H : Type) (enc : TypeId × Value → H) (W : World) (base : Nat) (args : Array Value) (ds gs : List (DataW H)) (before : List MemPlace)
    (hval : ∀ (j : Nat) t v, Try.f6.params[j]? = some t → args[j]? = some v → Value.okWide Try.prog W .any base t v)
    (hW : DataW.Whole enc Try.prog Try.f6.params.toList Rows.proveCompleteSpec.vars false W args.toList ds gs before) :
    Calls Try.prog 6 args W fun e W' => ∃ v, e = .returned v ∧ Rows.proveCompleteSpec.post enc Try.prog Try.f6 false true false false W args v W' := by
  have hW' := hW
  obtain ⟨p, q, hA0, hV, rfl, hfz, hnd⟩ := hW
  have hA : DataW.TrodAll enc Try.prog W 0 (fun _ => true) true Try.f6.params.toList args.toList ds p := hA0
  rw [Try.params6] at hA hval
  obtain ⟨v0, v1, v2, v3, d0, d1, d2, d3, p0, p1, p2, p3, rfl, rfl, rfl, h0, h1, h2, h3⟩ := trodAll_four hA
  obtain ⟨rfl, rfl⟩ := trodVars_none hV
  obtain ⟨A0, c0, x0, rfl, hs0, hb0⟩ := arg_slice opens_clms Try.underlying32 (hval 0 32 v0 rfl rfl) h0
  obtain ⟨cs1, x1, rfl, hs1, hb1⟩ := arg_struct opens_clm Try.underlying24 (hval 1 24 v1 rfl rfl) h1
  obtain ⟨A2, c2, x2, rfl, hs2, hb2⟩ := arg_slice opens_ints Try.underlying22 (hval 2 22 v2 rfl rfl) h2
  obtain ⟨cs3, x3, rfl, hs3, hb3⟩ := arg_struct opens_clm Try.underlying24 (hval 3 24 v3 rfl rfl) h3
  obtain ⟨k0, r0⟩ := (avs_clm).sl (by decide) (σ' := fun _ => none) hs0
  obtain ⟨k1, r1⟩ := (avs_clm).agg (σ' := fun _ => none) hs1
  obtain ⟨k2, r2⟩ := (avs_int).sl (by decide) (σ' := fun _ => none) hs2
  obtain ⟨k3, r3⟩ := (avs_clm).agg (σ' := fun _ => none) hs3
  refine (law_calls (us := [.slice A0 x0.length c0, .agg cs1, .slice A2 x2.length c2, .agg cs3]) (c_ProveComplete (x0.map toC) (toC x1) (x2.map id) (toC x3) _) (.cons r0 (.cons r1 (.cons r2 (.cons r3 .nil))))).mono fun e W' ⟨he, hg⟩ => ?_
  subst he
  exact ⟨_, rfl, post_true rfl Try.underlying4 rfl laidOut (by kernel_rfl) hW' rfl hg⟩

set_option maxRecDepth 100000 in
theorem lifted (os : Os) (started : os.Started) (H : Type) (enc : TypeId × Value → H) :
    ReturnsInHanded {} Try.checked os 6 .any (Rows.proveCompleteSpec.pre6 enc Try.prog Try.f6 Rows.proveCompleteRow.domain false) (Rows.proveCompleteSpec.post enc Try.prog Try.f6 false true false false) := by
  refine returnsInHanded_of_change (C := Try.checked) own started (by kernel_rfl) Try.func6
    (ChangeSpec.witness6 (enc := enc) (C := Try.checked) false ⟨#[], #[.slice none 0 0, .agg #[.bool false, .int .i64 0, .int .i64 0], .slice none 0 0, .agg #[.bool false, .int .i64 0, .int .i64 0]], []⟩ 8 (by kernel_rfl) (by kernel_rfl) (by kernel_rfl) (by kernel_rfl)) ?_
  intro W base args ds gs before hval hW _ _
  exact contract H enc W base args ds gs before hval hW

theorem proved : Rows.ProveCompleteSaid :=
  OpenClaim.holds_of_wide 6 Try.f6 rfl rfl rfl rfl rfl rfl rfl ⟨rfl, rfl, rfl, rfl, rfl⟩ rfl rfl rfl rfl rfl (by kernel_rfl) Try.func6 (by kernel_rfl)
    (of_decide_eq_true (by kernel_rfl)) (by unfold Func.isWrapper; first | (rw [if_pos (by decide +kernel)]; kernel_rfl) | (rw [if_neg (by decide +kernel)]; exact ⟨rfl, rfl⟩))
    (fun os started H enc _ => lifted os started H enc)
end Go.Proofs.Ytcmnjoepadjioaa.proveComplete
