/- Walks: choose, talkBegun. -/
import Derived.Test.YtmghigmegiainaaTkI
namespace Go.Proofs.Ytmghigmegiainaa
open Go.RowKit

def chooseN (c : Int) (n : Nat) : Nat := (if c < 0 then -(c + 1) else c).toNat % n
theorem chooseN_lt (c : Int) {n : Nat} (hn : 0 < n) : chooseN c n < n := Nat.mod_lt _ hn
theorem tmod_nat {c : Int} (n : Nat) (h : 0 ≤ c) : Int.tmod c n = ((c.toNat % n : Nat) : Int) := by
  obtain ⟨m, rfl⟩ : ∃ m : Nat, c = m := ⟨c.toNat, by omega⟩
  rfl
theorem emod_nat {c : Int} (n : Nat) (h : 0 ≤ c) : c % n = ((c.toNat % n : Nat) : Int) := by
  obtain ⟨m, rfl⟩ : ∃ m : Nat, c = m := ⟨c.toNat, by omega⟩
  rfl

set_option maxHeartbeats 1000000 in
theorem choose_any (c : Int) (n : Nat) (w : World) (hc : I64 c) (hn : 0 < n) (hn2 : n ≤ 9223372036854775807) :
    Calls Try.prog 8 #[.int .i64 c, .int .i64 (n : Int)] w fun e w' => e = .returned (.int .i64 (chooseN c n : Nat)) ∧ w = w' := by
  have hc1 := hc.lo
  have hc2 := hc.hi
  have hn0 : ¬ (n : Int) = 0 := by omega
  have hn1 : ¬ (n : Int) = -1 := by omega
  go_enter Try.func8, Try.ntmps8
  by_cases h : c < 0
  · have HQ : Hid (Int.tmod (-(c + 1)) n = (chooseN c n : Nat)) := Lib.hid (by unfold chooseN; rw [if_pos h]; exact tmod_nat n (by omega))
    go_wp2
    go_ret
    rw [← HQ.out, Int.neg_tmod]; exact ⟨rfl, rfl⟩
  · have HQ : Hid (c % n = (chooseN c n : Nat)) := Lib.hid (by unfold chooseN; rw [if_neg h]; exact emod_nat n (by omega))
    go_wp2
    go_ret
    rw [← HQ.out]; exact ⟨rfl, rfl⟩

set_option maxHeartbeats 4000000 in
theorem begun_any (w : World) : Calls Try.prog 5 #[] w fun e w' => e = .returned (.bool true) ∧ Below w.heap.size w w' := by
  go_enter Try.func5, Try.ntmps5
  go_wp2_with fail
  refine (new_any 1 2 _ (i64_of (by omega) (by omega)) (i64_of (by omega) (by omega))).mono ?_
  rintro e w1 ⟨⟨h, _⟩ | ⟨_, g, gs, c, rfl, hg, hgs, hT⟩, hb1⟩
  · exact absurd rfl h
  · have hok : EsOk (newS 2) := EsOk.new 2
    have HT := Lib.hid hT
    have HB1 := Lib.hid hb1
    clear hT hb1
    go_wp2_with fail
    refine (say_any g gs c 1 (newS 2) 1 ⟨#[120]⟩ _ HT.out hok (i64_of (by omega) (by omega)) (i64_of (by omega) (by omega)) (by simp [ByteArray.size, maxLen]) (by rw [newS_len]; omega)).mono ?_
    rintro e w2 ⟨rfl, hg2, hs2⟩
    have hT2 := HT.out.put hg2 hs2 (sayS_length _ _ _ _)
    have hE2 : sayE (newS 2) 1 ⟨#[120]⟩ = 0 := by rfl
    rw [hE2]
    have HT2 := Lib.hid hT2
    have HB2 := Lib.hid (HB1.out.grown hg2 HB1.out.size (by intro k hk; injection hk with hk; omega))
    clear hg2 hs2 hT2 hE2
    go_wp2_with fail
    refine (take_any g gs c 1 _ _ HT2.out (by rw [sayS_length, newS_len]; omega)).mono ?_
    rintro e w3 ⟨⟨v, rfl, hr⟩, hg3, hs3⟩
    have hL : takeL (sayS 1 (newS 2) 1 ⟨#[120]⟩) = [⟨1, 1, 1, ⟨#[120]⟩, true⟩] := by rfl
    rw [hL] at hr
    obtain ⟨A, c3, rfl, hsl, _⟩ := hr.sl
    obtain ⟨ad, rfl, _, _, a0, a1, a2, a3, a4⟩ := told_at hsl (k := 0) (by simp)
    have HB3 := Lib.hid (HB2.out.grown hg3 HB2.out.size (by intro k hk; injection hk with hk; omega))
    clear hsl hr hg3 hs3
    have h0 : ad.add (0 * 5) = ad := by unfold Addr.add; split <;> simp_all
    rw [h0] at a0 a1 a2 a3 a4
    dsimp only [List.getElem_cons_zero] at a0 a1 a2 a3 a4
    go_wp2
    go_ret
    exact ⟨rfl, HB3.out⟩
end Go.Proofs.Ytmghigmegiainaa
