/- Walks: Small, small, kind, KindOf. -/
import Derived.Test.YtebmdabdckebhaaP2
namespace Go.Proofs.Ytebmdabdckebhaa
open Go.RowKit

def smallS (c : Int) : Int :=
  if (65 ≤ c ∧ c ≤ 90) ∨ (192 ≤ c ∧ c ≤ 222 ∧ c ≠ 215) ∨ (913 ≤ c ∧ c ≤ 939 ∧ c ≠ 930) ∨ (1040 ≤ c ∧ c ≤ 1071) then c + 32 else if 1024 ≤ c ∧ c ≤ 1039 then c + 80 else c
def kindS (c : Int) : Int :=
  if c < 0 then 5 else if (65 ≤ c ∧ c ≤ 90) ∨ (97 ≤ c ∧ c ≤ 122) ∨ (192 ≤ c ∧ c ≠ 215 ∧ c ≠ 247) then 1 else if 48 ≤ c ∧ c ≤ 57 then 2 else if c = 32 ∨ c = 9 ∨ c = 10 then 3 else 4

set_option maxHeartbeats 400000 in
theorem rSmall_any (c : Int) (h0 : -1 ≤ c) (h1 : c ≤ 1114111) (w : World) :
    Calls Try.prog 32 #[.int .i64 c] w fun e w' => e = .returned (.int .i64 (smallS c)) ∧ w = w' := by
  go_enter Try.func32, Try.ntmps32
  go_wp2
  all_goals go_ret
  all_goals refine ⟨ret_int ?_, rfl⟩
  all_goals unfold smallS
  all_goals (repeat' split) <;> omega

set_option maxHeartbeats 400000 in
theorem kindOf_any (c : Int) (w : World) :
    Calls Try.prog 27 #[.int .i64 c] w fun e w' => e = .returned (.int .i64 (kindS c)) ∧ w = w' := by
  go_enter Try.func27, Try.ntmps27
  go_wp2
  all_goals go_ret
  all_goals refine ⟨ret_int ?_, rfl⟩
  all_goals try simp only [bne_iff_ne, beq_iff_eq, bne_eq_false_iff_eq, beq_eq_false_iff_ne, ne_eq] at *
  all_goals unfold kindS
  all_goals (repeat' split) <;> omega
set_option maxHeartbeats 400000 in
theorem kind_any (c : Int) (w : World) :
    Calls Try.prog 26 #[.int .i64 c] w fun e w' => e = .returned (.int .i64 (kindS c)) ∧ w = w' := by
  go_enter Try.func26, Try.ntmps26
  go_wp2
  all_goals go_ret
  all_goals refine ⟨ret_int ?_, rfl⟩
  all_goals try simp only [bne_iff_ne, beq_iff_eq, bne_eq_false_iff_eq, beq_eq_false_iff_ne, ne_eq] at *
  all_goals unfold kindS
  all_goals (repeat' split) <;> omega

def smallTab : List Int := [65, 90, 32, 192, 214, 32, 216, 222, 32, 913, 929, 32, 931, 939, 32, 1040, 1071, 32, 1024, 1039, 80]
theorem small_step (c : Int) (k : Nat) (hk : k < 7) : ∃ L H A : Int, smallTab[k * 3]? = some L ∧ smallTab[k * 3 + 1]? = some H ∧ smallTab[k * 3 + 2]? = some A ∧ 0 ≤ A ∧ A ≤ 80 ∧ (L ≤ c → c ≤ H → smallS c = c + A) := by
  rcases (by omega : k = 0 ∨ k = 1 ∨ k = 2 ∨ k = 3 ∨ k = 4 ∨ k = 5 ∨ k = 6) with rfl | rfl | rfl | rfl | rfl | rfl | rfl
  all_goals refine ⟨_, _, _, rfl, rfl, rfl, by decide, by decide, fun h1 h2 => ?_⟩
  all_goals unfold smallS
  all_goals (repeat' split) <;> omega
def smallNot (c : Int) (k : Nat) : Prop := ∀ j, j < k → ∀ L H : Int, smallTab[j * 3]? = some L → smallTab[j * 3 + 1]? = some H → ¬ (L ≤ c ∧ c ≤ H)
theorem small_none (c : Int) (h : smallNot c 7) : smallS c = c := by
  have h0 := h 0 (by omega) _ _ rfl rfl; have h1 := h 1 (by omega) _ _ rfl rfl; have h2 := h 2 (by omega) _ _ rfl rfl; have h3 := h 3 (by omega) _ _ rfl rfl
  have h4 := h 4 (by omega) _ _ rfl rfl; have h5 := h 5 (by omega) _ _ rfl rfl; have h6 := h 6 (by omega) _ _ rfl rfl
  unfold smallS; (repeat' split) <;> omega

theorem small_not {c : Int} {k : Nat} {L H : Int} (h : smallNot c k) (e0 : smallTab[k * 3]? = some L) (e1 : smallTab[k * 3 + 1]? = some H) (hno : ¬ (L ≤ c ∧ c ≤ H)) : smallNot c (k + 1) := by
  intro j hj L' H' h1 h2
  by_cases e : j = k
  · subst e
    rw [e0] at h1; rw [e1] at h2
    obtain rfl := Option.some.inj h1; obtain rfl := Option.some.inj h2
    exact hno
  · exact h j (by omega) L' H' h1 h2

set_option maxRecDepth 100000 in
set_option maxHeartbeats 1000000 in
theorem small_any (c : Int) (h0 : -1 ≤ c) (h1 : c ≤ 1114111) (w : World) :
    Calls Try.prog 30 #[.int .i64 c] w fun e w' => e = .returned (.int .i64 (smallS c)) ∧ Below w.heap.size w w' := by
  go_enter Try.func30, Try.ntmps30
  go_wp2
  go_loopw [14] (fun i wr => ∃ k : Nat, k ≤ 7 ∧ i = .int .i64 (k : Int) ∧ Hid (smallNot c k) ∧ Blk wr w.heap.size 70 (smallTab.map (Value.int .i64)).toArray ∧ Below w.heap.size w wr) (fun i _ => 7 - (intOf i).toNat)
  case atStart => exact ⟨0, by omega, rfl, Lib.hid (fun j hj => by omega), Blk.new _ _ _, (Below.refl _ _).alloc (Nat.le_refl _) _⟩
  case round =>
    obtain ⟨k, hk, rfl, HN, hblk, hnx⟩ := hrel
    have HX := Lib.hid hnx
    have hsz := hnx.size
    by_cases hlt : k < 7
    · obtain ⟨L, H, A, e0, e1, e2, hA0, hA1, hs⟩ := small_step c k hlt
      have HS := Lib.hid hs
      have c0 := hblk.cell (k * 3); have c1 := hblk.cell (k * 3 + 1); have c2 := hblk.cell (k * 3 + 2)
      simp only [List.getElem?_toArray, List.getElem?_map, e0, e1, e2, Option.map_some] at c0 c1 c2
      have HB := Lib.hid hblk
      have E0 := Lib.hid e0; have E1 := Lib.hid e1
      clear hs e0 e1 e2 hblk hnx
      go_wp2
      all_goals first
        | (go_ret
           rw [HS.out (by assumption) (by assumption)]
           exact ⟨rfl, HX.out.alloc HX.out.size _⟩)
        | (have hno : ¬ (L ≤ c ∧ c ≤ H) := by omega
           go_roundw
           case rel => exact ⟨k + 1, by omega, by go_num, Lib.hid (small_not HN.out E0.out E1.out hno), HB.out.alloc _, HX.out.alloc HX.out.size _⟩
           case measure => simp [intOf]; omega)
    · have hk7 : smallNot c 7 := by
        obtain rfl : k = 7 := by omega
        exact HN.out
      have HE := Lib.hid (small_none c hk7)
      clear hk7
      clear hnx
      go_wp2
      go_ret
      rw [HE.out]
      exact ⟨rfl, HX.out⟩
end Go.Proofs.Ytebmdabdckebhaa
