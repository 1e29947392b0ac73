/- The walk of the law LettersUnits. -/
import Derived.Test.YtebmdabdckebhaaA7
namespace Go.Proofs.Ytebmdabdckebhaa
open Go.RowKit

set_option maxRecDepth 100000 in
set_option maxHeartbeats 2000000 in
theorem lawUnits_any (s : ByteArray) (c : Int) (hs : s.size ≤ 1048576) (hc : (Lit.int .i64 c).wf = true) (w : World) :
    Calls Try.prog 3 #[.string s, .int .i64 c] w fun e w' => e = .returned (.bool true) ∧ Below w.heap.size w w' := by
  have hs4 : s.size ≤ 4294967296 := by omega
  have hll := units_len s s.size 0
  go_enter Try.func3, Try.ntmps3
  go_wp2_with fail
  refine (units_any s hs4 _).mono ?_
  rintro e w1 ⟨v1, rfl, hown1, hb1⟩
  go_wp2_with fail
  refine (rUnits_any s hs4 _).mono ?_
  rintro e w2 ⟨v2, rfl, hown2, hb2⟩
  replace hown1 := own_below_all hown1 hb2
  generalize unitsFrom s s.size 0 = l at *
  obtain ⟨A1, c1, rfl⟩ := own_slice hown1
  obtain ⟨A2, c2, rfl⟩ := own_slice hown2
  have hX2 := Lib.hid (hb1.trans (hb2.mono hb1.size))
  have hO2 := Lib.hid (And.intro hown1 hown2)
  clear hown1 hown2 hb1 hb2
  go_wp2_with fail
  refine (lettersBegun_any _).mono ?_
  rintro e w3 ⟨rfl, hb3⟩
  have hX3 := Lib.hid (hX2.out.trans (hb3.mono hX2.out.size))
  have hO3 := Lib.hid (And.intro (own_below_all hO2.out.1 hb3) (own_below_all hO2.out.2 hb3))
  clear hb3 hX2 hO2
  go_wp2
  go_loopw [7] (fun i wr => ∃ k n : Nat, k ≤ l.length ∧ i = .int .i64 (k : Int) ∧ wr = w3.drewN n) (fun i _ => l.length - (intOf i).toNat)
  case atStart => exact ⟨0, 0, by omega, rfl, rfl⟩
  case round =>
    obtain ⟨k, n, hk, rfl, rfl⟩ := hrel
    by_cases hlt : k < l.length
    · obtain ⟨g1, rfl, _, _, _, a0, a1, a2⟩ := row3_at hO3.out.1 hlt
      obtain ⟨g2, rfl, _, _, _, b0, b1, b2⟩ := row3_at hO3.out.2 hlt
      generalize l[k] = u at a0 a1 a2 b0 b1 b2
      go_wp2
      go_quiet (fail)
      go_wp2
      exact ⟨⟨k + 1, n + nq, by omega, by go_num, rfl⟩, by simp [intOf]; omega⟩
    · have HZ : Hid (Below w.heap.size w (w3.drewN n)) := Lib.hid (below_drewN hX3.out n)
      go_wp2_with (first
        | (go_at_call 10; refine (encode_any c hc _).mono ?_; rintro e w' ⟨rfl, rfl⟩)
        | (go_at_call 11; refine (rEncode_any c _).mono ?_; rintro e w' ⟨rfl, hbe⟩))
      go_ret
      exact ⟨rfl, HZ.out.trans (hbe.mono HZ.out.size)⟩
end Go.Proofs.Ytebmdabdckebhaa
