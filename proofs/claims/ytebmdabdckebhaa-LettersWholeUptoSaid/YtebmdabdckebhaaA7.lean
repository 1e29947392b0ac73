/- The walks of lettersBegun and of the law LettersUnits. -/
import Derived.Test.YtebmdabdckebhaaA6
namespace Go.Proofs.Ytebmdabdckebhaa
open Go.RowKit

theorem units_a : unitsFrom ⟨#[97]⟩ 1 0 = [(0, 1, 97)] := by decide +kernel
theorem fold_A : foldL ⟨#[65]⟩ = [97] := by decide +kernel

set_option maxRecDepth 100000 in
set_option maxHeartbeats 1000000 in
theorem lettersBegun_any (w : World) : Calls Try.prog 9 #[] w fun e w' => e = .returned (.bool true) ∧ Below w.heap.size w w' := by
  go_enter Try.func9, Try.ntmps9
  go_wp2_with fail
  refine (units_any ⟨#[97]⟩ (by decide) _).mono ?_
  rintro e w2 ⟨v, rfl, hown, hb2⟩
  rw [show (⟨#[97]⟩ : ByteArray).size = 1 from rfl, units_a] at hown
  obtain ⟨A, c, rfl⟩ := own_slice hown
  obtain ⟨g, rfl, _, _, _, _, _, c2⟩ := row3_at hown (k := 0) (by decide)
  have c2' : w2.cell? ⟨g, 2, none⟩ = some (.int .i64 97) := c2
  clear hown c2
  have HX := Lib.hid hb2
  clear hb2
  go_wp2_with fail
  refine (fold_any ⟨#[65]⟩ (by decide) _).mono ?_
  rintro e w3 ⟨rfl, hb3⟩
  rw [fold_A]
  have HX3 := Lib.hid (HX.out.trans (hb3.mono HX.out.size))
  clear hb3
  go_wp2
  go_ret
  exact ⟨rfl, HX3.out⟩
end Go.Proofs.Ytebmdabdckebhaa
