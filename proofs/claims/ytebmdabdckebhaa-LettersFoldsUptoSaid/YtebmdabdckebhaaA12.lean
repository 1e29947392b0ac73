/- The walk of the law LettersFolds. -/
import Derived.Test.YtebmdabdckebhaaA7
import Derived.Test.YtebmdabdckebhaaA9
import Derived.Test.YtebmdabdckebhaaA11
namespace Go.Proofs.Ytebmdabdckebhaa
open Go.RowKit

set_option maxRecDepth 100000 in
set_option maxHeartbeats 2000000 in
theorem lawFolds_any (s : ByteArray) (hs : s.size ≤ 1048576) (w : World) :
    Calls Try.prog 4 #[.string s] w fun e w' => e = .returned (.bool true) ∧ Below w.heap.size w w' := by
  have hs4 : s.size ≤ 4294967296 := by omega
  have hll := units_len s s.size 0
  go_enter Try.func4, Try.ntmps4
  go_wp2_with fail
  refine (pieces_any s hs4 _).mono ?_
  rintro e w1 ⟨v1, rfl, hown1, hb1⟩
  go_wp2_with fail
  refine (rPieces_any s hs4 _).mono ?_
  rintro e w2 ⟨v2, rfl, hown2, hb2⟩
  replace hown1 := own_below_all hown1 hb2
  have hpl := pieces_len (unitsFrom s s.size 0) (unitsFrom s s.size 0).length
  generalize piecesTo (unitsFrom s s.size 0) (unitsFrom s s.size 0).length = l at *
  obtain ⟨A1, c1, rfl⟩ := own_slice hown1
  obtain ⟨A2, c2, rfl⟩ := own_slice hown2
  have hX2 := Lib.hid (hb1.trans (hb2.mono hb1.size))
  have hO2 := Lib.hid (And.intro hown1 hown2)
  clear hown1 hown2 hb1 hb2
  go_wp2_with fail
  refine (lettersBegun_any _).mono ?_
  rintro e w3 ⟨rfl, hb3⟩
  have hX3 := Lib.hid (hX2.out.trans (hb3.mono hX2.out.size))
  have hO3 := Lib.hid (And.intro (own_below_all hO2.out.1 hb3) (own_below_all hO2.out.2 hb3))
  clear hb3 hX2 hO2
  go_wp2_with fail
  refine (fold_any s hs4 _).mono ?_
  rintro e w4 ⟨rfl, hb4⟩
  have hX4 := Lib.hid (hX3.out.trans (hb4.mono hX3.out.size))
  have hO4 := Lib.hid (And.intro (own_below_all hO3.out.1 hb4) (own_below_all hO3.out.2 hb4))
  clear hb4 hX3 hO3
  go_wp2_with fail
  refine (rFold_any s hs4 _).mono ?_
  rintro e w5 ⟨rfl, hb5⟩
  have hX5 := Lib.hid (hX4.out.trans (hb5.mono hX4.out.size))
  have hO5 := Lib.hid (And.intro (own_below_all hO4.out.1 hb5) (own_below_all hO4.out.2 hb5))
  clear hb5 hX4 hO4
  generalize (⟨(foldL s).toArray⟩ : ByteArray) = fs
  go_wp2
  go_loopw [5] (fun i wr => ∃ k n : Nat, k ≤ l.length ∧ i = .int .i64 (k : Int) ∧ wr = w5.drewN n) (fun i _ => l.length - (intOf i).toNat)
  case atStart => exact ⟨0, 0, by omega, rfl, rfl⟩
  case round =>
    obtain ⟨k, n, hk, rfl, rfl⟩ := hrel
    by_cases hlt : k < l.length
    · obtain ⟨g1, rfl, _, _, _, a0, a1, a2⟩ := row3_at hO5.out.1 hlt
      obtain ⟨g2, rfl, _, _, _, b0, b1, b2⟩ := row3_at hO5.out.2 hlt
      generalize l[k] = u at a0 a1 a2 b0 b1 b2
      go_wp2
      go_quiet (fail)
      go_wp2
      exact ⟨⟨k + 1, n + nq, by omega, by go_num, rfl⟩, by simp [intOf]; omega⟩
    · have HZ : Hid (Below w.heap.size w (w5.drewN n)) := Lib.hid (below_drewN hX5.out n)
      go_wp2
      go_ret
      exact ⟨rfl, HZ.out⟩
end Go.Proofs.Ytebmdabdckebhaa
