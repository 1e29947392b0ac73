/- Walks over slices of integers: R.Within, R.Same, R.among, slices.Index, slices.Contains, sound.right. -/
import Derived.Test.YtaidkboijjkbgaaSI
namespace Go.Proofs.Ytaidkboijjkbgaa
open Go.RowKit

def outB (most x : Int) : Bool := decide (x < 1) || decide (most < x)
theorem any_none {α : Type} {p : α → Bool} {xs : List α} {k : Nat} (h : (xs.take k).any p = false) (hk : xs.length ≤ k) : xs.any p = false := by rwa [List.take_of_length_le hk] at h
theorem any_next {α : Type} {p : α → Bool} {xs : List α} {k : Nat} (h : (xs.take k).any p = false) (hk : k < xs.length) (hp : p (xs[k]'hk) = false) : (xs.take (k + 1)).any p = false := by rw [any_take_succ p xs k hk, h, hp]; rfl
theorem any_hit {α : Type} {p : α → Bool} {xs : List α} {k : Nat} (hk : k < xs.length) (hp : p (xs[k]'hk) = true) : xs.any p = true := List.any_eq_true.2 ⟨_, List.getElem_mem hk, hp⟩

set_option maxRecDepth 100000 in
set_option maxHeartbeats 1000000 in
theorem within_any (S : Nat → Prop) (A : Option Addr) (c : Nat) (xs : List Int) (most : Int) (w : World) (h : Sl rInt w S A c xs) :
    Calls Try.prog 25 #[.slice A xs.length c, .int .i64 most] w fun e w' => e = .returned (.bool (!xs.any (outB most))) ∧ w = w' := by
  have hl := h.le
  have hm := h.max
  unfold maxLen at hm
  have HS := Lib.hid h
  clear h
  go_enter Try.func25, Try.ntmps25
  go_wp2
  go_loop [5] (fun i => ∃ k : Nat, k ≤ xs.length ∧ i = .int .i64 (k : Int) ∧ Hid ((xs.take k).any (outB most) = false)) (fun i => xs.length - (intOf i).toNat)
  case atStart => exact ⟨0, by omega, rfl, Lib.hid (by simp)⟩
  case round =>
    obtain ⟨k, hk, rfl, HN⟩ := hrel
    by_cases hlt : k < xs.length
    · obtain ⟨ad, rfl, _, _, hcell⟩ := HS.out.int_at hlt
      have HY := Lib.hid (fun h => any_next (p := outB most) HN.out hlt h)
      have HH := Lib.hid (fun h => any_hit (p := outB most) hlt h)
      generalize xs[k]'hlt = x at *
      by_cases h1 : x < 1
      · have HQ : Hid (outB most x = true) := Lib.hid (by unfold outB; simp [h1])
        have h1' : decide (x < 1) = true := by simp; omega
        go_wp2
        all_goals go_ret
        all_goals exact ⟨by rw [HH.out HQ.out]; rfl, rfl⟩
      · by_cases h2 : most < x
        · have HQ : Hid (outB most x = true) := Lib.hid (by unfold outB; simp [h2])
          have h1' : decide (x < 1) = false := by simp; omega
          have h2' : decide (most < x) = true := by simp; omega
          go_wp2
          all_goals go_ret
          all_goals exact ⟨by rw [HH.out HQ.out]; rfl, rfl⟩
        · have HQ : Hid (outB most x = false) := Lib.hid (by unfold outB; simp; omega)
          have h1' : decide (x < 1) = false := by simp; omega
          have h2' : decide (most < x) = false := by simp; omega
          go_wp2
          go_round
          case rel => exact ⟨k + 1, by omega, by go_num, Lib.hid (HY.out HQ.out)⟩
          case measure => simp [intOf]; omega
    · have HE := Lib.hid (any_none HN.out (by omega))
      go_wp2
      go_ret
      exact ⟨by rw [HE.out]; rfl, rfl⟩

set_option maxRecDepth 100000 in
set_option maxHeartbeats 1000000 in
theorem among_any (S : Nat → Prop) (A : Option Addr) (c : Nat) (xs : List Int) (n : Int) (w : World) (h : Sl rInt w S A c xs) :
    Calls Try.prog 55 #[.slice A xs.length c, .int .i64 n] w fun e w' => e = .returned (.bool (xs.any fun x => x == n)) ∧ w = w' := by
  have hl := h.le
  have hm := h.max
  unfold maxLen at hm
  have HS := Lib.hid h
  clear h
  go_enter Try.func55, Try.ntmps55
  go_wp2
  go_loop [5] (fun i => ∃ k : Nat, k ≤ xs.length ∧ i = .int .i64 (k : Int) ∧ Hid ((xs.take k).any (fun x => x == n) = false)) (fun i => xs.length - (intOf i).toNat)
  case atStart => exact ⟨0, by omega, rfl, Lib.hid (by simp)⟩
  case round =>
    obtain ⟨k, hk, rfl, HN⟩ := hrel
    by_cases hlt : k < xs.length
    · obtain ⟨ad, rfl, _, _, hcell⟩ := HS.out.int_at hlt
      have HY := Lib.hid (fun h => any_next (p := fun x => x == n) HN.out hlt h)
      have HH := Lib.hid (fun h => any_hit (p := fun x => x == n) hlt h)
      generalize xs[k]'hlt = x at *
      cases h1 : x == n with
      | true =>
        have HQ := Lib.hid h1
        go_wp2
        go_ret
        exact ⟨by rw [HH.out HQ.out]; rfl, rfl⟩
      | false =>
        have HQ := Lib.hid h1
        go_wp2
        go_round
        case rel => exact ⟨k + 1, by omega, by go_num, Lib.hid (HY.out HQ.out)⟩
        case measure => simp [intOf]; omega
    · have HE := Lib.hid (any_none HN.out (by omega))
      go_wp2
      go_ret
      exact ⟨by rw [HE.out]; rfl, rfl⟩

set_option maxRecDepth 100000 in
set_option maxHeartbeats 1000000 in
theorem indexI_any (S : Nat → Prop) (A : Option Addr) (c : Nat) (xs : List Int) (n : Int) (w : World) (h : Sl rInt w S A c xs) :
    Calls Try.prog 60 #[.slice A xs.length c, .int .i64 n] w fun e w' => (∃ m : Int, e = .returned (.int .i64 m) ∧ decide (0 ≤ m) = xs.any fun x => x == n) ∧ w = w' := by
  have hl := h.le
  have hm := h.max
  unfold maxLen at hm
  have HS := Lib.hid h
  clear h
  go_enter Try.func60, Try.ntmps60
  go_wp2
  go_loop [5, 8] (fun _ i => ∃ k : Nat, k ≤ xs.length ∧ i = .int .i64 (k : Int) ∧ Hid ((xs.take k).any (fun x => x == n) = false)) (fun _ i => xs.length - (intOf i).toNat)
  case atStart => exact ⟨0, by omega, rfl, Lib.hid (by simp)⟩
  case round =>
    obtain ⟨k, hk, rfl, HN⟩ := hrel
    by_cases hlt : k < xs.length
    · obtain ⟨ad, rfl, _, _, hcell⟩ := HS.out.int_at hlt
      have HY := Lib.hid (fun h => any_next (p := fun x => x == n) HN.out hlt h)
      have HH := Lib.hid (fun h => any_hit (p := fun x => x == n) hlt h)
      generalize xs[k]'hlt = x at *
      cases h1 : x == n with
      | true =>
        have HQ := Lib.hid h1
        have h2 : (n == x) = true := by rw [beq_iff_eq] at *; exact h1.symm
        go_wp2
        go_ret
        exact ⟨⟨_, rfl, by rw [HH.out HQ.out]; simp⟩, rfl⟩
      | false =>
        have HQ := Lib.hid h1
        have h2 : (n == x) = false := by rw [beq_eq_false_iff_ne] at *; exact fun e => h1 e.symm
        go_wp2
        go_round
        case rel => exact ⟨k + 1, by omega, by go_num, Lib.hid (HY.out HQ.out)⟩
        case measure => simp [intOf]; omega
    · have HE := Lib.hid (any_none HN.out (by omega))
      go_wp2
      go_ret
      exact ⟨⟨_, rfl, by rw [HE.out]; rfl⟩, rfl⟩

set_option maxRecDepth 100000 in
set_option maxHeartbeats 1000000 in
theorem containsI_any (S : Nat → Prop) (A : Option Addr) (c : Nat) (xs : List Int) (n : Int) (w : World) (h : Sl rInt w S A c xs) :
    Calls Try.prog 59 #[.slice A xs.length c, .int .i64 n] w fun e w' => e = .returned (.bool (xs.any fun x => x == n)) ∧ w = w' := by
  have HC := Lib.hid (indexI_any S A c xs n w h)
  clear h
  go_enter Try.func59, Try.ntmps59
  go_wp2_with fail
  refine HC.out.mono ?_
  rintro e w' ⟨⟨m, rfl, hn⟩, rfl⟩
  have HN := Lib.hid hn
  clear hn
  go_wp2
  all_goals go_ret
  all_goals exact ⟨by rw [← HN.out]; rfl, rfl⟩

set_option maxRecDepth 100000 in
set_option maxHeartbeats 1000000 in
theorem same_any (S : Nat → Prop) (A A2 : Option Addr) (c c2 : Nat) (xs ys : List Int) (w : World) (h : Sl rInt w S A c xs) (h2 : Sl rInt w S A2 c2 ys) :
    Calls Try.prog 12 #[.slice A xs.length c, .slice A2 ys.length c2] w fun e w' => e = .returned (.bool (decide (xs = ys))) ∧ ∃ n, w' = w.drewN n := by
  have hl := h.le
  have hm := h.max
  unfold maxLen at hm
  have HS := Lib.hid h
  have HT := Lib.hid h2
  clear h h2
  by_cases hle : xs.length = ys.length
  · have hle1 : ((xs.length : Int) != (ys.length : Int)) = false := by simp [hle]
    have hle2 : (xs.length != ys.length) = false := by simp [hle]
    have HL := Lib.hid hle
    clear hle
    go_enter Try.func12, Try.ntmps12
    go_wp2
    go_loopw [5] (fun i wr => ∃ k n : Nat, k ≤ xs.length ∧ i = .int .i64 (k : Int) ∧ Hid (xs.take k = ys.take k) ∧ wr = w.drewN n) (fun i _ => xs.length - (intOf i).toNat)
    case atStart => exact ⟨0, 0, by omega, rfl, Lib.hid (by simp), rfl⟩
    case round =>
      obtain ⟨k, n, hk, rfl, HN, rfl⟩ := hrel
      by_cases hlt : k < xs.length
      · have hlt2 : k < ys.length := by rw [← HL.out]; exact hlt
        obtain ⟨ad, rfl, _, _, hcell⟩ := HS.out.int_at hlt
        obtain ⟨ad2, rfl, _, _, hcell2⟩ := HT.out.int_at hlt2
        have HE : Hid (xs.take (k + 1) = ys.take (k + 1) ↔ xs[k] = ys[k]) := Lib.hid (by
          rw [List.take_succ_eq_append_getElem hlt, List.take_succ_eq_append_getElem hlt2, HN.out]
          exact ⟨fun h => by have := List.append_cancel_left h; simpa using this, fun h => by rw [h]⟩)
        generalize xs[k]'hlt = x at *
        generalize ys[k]'hlt2 = y at *
        by_cases hxy : x = y
        · have hx1 : (x != y) = false := by simp [hxy]
          have HQ := Lib.hid hxy
          clear hxy
          go_wp2
          go_quiet (fail)
          go_wp2
          go_roundw
          case rel => exact ⟨k + 1, n + nq, by omega, by go_num, Lib.hid (HE.out.2 HQ.out), by simp⟩
          case measure => simp [intOf]; omega
        · have hx1 : (x != y) = true := by simp [hxy]
          have HQ := Lib.hid hxy
          clear hxy
          go_wp2
          go_quiet (fail)
          go_wp2
          go_ret
          refine ⟨?_, n + nq, by simp⟩
          have : xs ≠ ys := fun e => HQ.out (HE.out.1 (by rw [e]))
          simp [this]
      · have HE : Hid (xs = ys) := Lib.hid (by
          have := HN.out; rwa [List.take_of_length_le (by omega), List.take_of_length_le (by rw [← HL.out]; omega)] at this)
        go_wp2
        go_ret
        exact ⟨by rw [decide_eq_true HE.out]; rfl, n, rfl⟩
  · have hle1 : ((xs.length : Int) != (ys.length : Int)) = true := by simp; omega
    have hle2 : (xs.length != ys.length) = true := by simp [hle]
    have HL : Hid (xs ≠ ys) := Lib.hid fun e => hle (by rw [e])
    clear hle
    go_enter Try.func12, Try.ntmps12
    go_wp2
    go_ret
    exact ⟨by rw [decide_eq_false HL.out]; rfl, 0, rfl⟩

set_option maxRecDepth 100000 in
set_option maxHeartbeats 1000000 in
theorem right1_tells (w : World) (B : Nat) (k : Int) (hB : B < w.heap.size) (hc : w.cell? ⟨B, 0, none⟩ = some (.int .i64 k)) :
    Tells Try.prog 44 #[.pointer (some ⟨B, 0, none⟩)] (outB k) w := by
  intro W x hb _
  have hc' : W.cell? ⟨B, 0, none⟩ = some (.int .i64 k) := (hb.cell (p := ⟨B, 0, none⟩) hB).trans hc
  clear hc hb
  by_cases h1 : x < 1
  · have HQ : Hid (outB k x = true) := Lib.hid (by unfold outB; simp [h1])
    have h1' : decide (x < 1) = true := by simp; omega
    go_enter Try.func44, Try.ntmps44
    go_wp2
    all_goals go_ret
    all_goals exact ⟨by rw [HQ.out]; rfl, Below.refl _ _⟩
  · have h1' : decide (x < 1) = false := by simp; omega
    have HQ : Hid (outB k x = decide (k < x)) := Lib.hid (by unfold outB; rw [h1']; rfl)
    go_enter Try.func44, Try.ntmps44
    go_wp2
    all_goals go_ret
    all_goals exact ⟨by rw [HQ.out]; rfl, Below.refl _ _⟩

set_option maxRecDepth 100000 in
set_option maxHeartbeats 1000000 in
theorem right_any (S : Nat → Prop) (A : Option Addr) (c : Nat) (xs : List Int) (k : Int) (w : World) (h : Sl rInt w S A c xs) (hS : ∀ b, S b → b < w.heap.size) :
    Calls Try.prog 27 #[.slice A xs.length c, .int .i64 k] w fun e w' => e = .returned (.bool (!xs.any (outB k))) ∧ Below w.heap.size w w' := by
  have hX : Below w.heap.size w (w.alloc (.cells #[.int .i64 k] 3)) := (Below.refl _ _).alloc (Nat.le_refl _) _
  have HC := Lib.hid (containsFuncI_any 44 _ (enters_of Try.func44 (by kernel_rfl) rfl) (outB k) S A c xs _ (h.below hS hX) (in_below hS hX) (right1_tells _ w.heap.size k (by simp) (by simp)))
  have HX := Lib.hid hX
  clear h hS hX
  go_enter Try.func27, Try.ntmps27
  go_wp2_with fail
  refine HC.out.mono ?_
  rintro e w' ⟨rfl, hb⟩
  have HB := Lib.hid (HX.out.trans (hb.mono HX.out.size))
  clear hb
  go_wp2
  go_ret
  exact ⟨rfl, HB.out⟩
end Go.Proofs.Ytaidkboijjkbgaa
