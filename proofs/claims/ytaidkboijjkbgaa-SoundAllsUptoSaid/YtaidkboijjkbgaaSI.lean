/- Walks of package slices at slices of integers: IndexFunc, ContainsFunc, Index, Contains, Equal. -/
import Derived.Test.YtaidkboijjkbgaaRd
import Derived.Shelf.Abstract
namespace Go.Proofs.Ytaidkboijjkbgaa
open Go.RowKit

/-- a predicate that is handed over: wherever what lies in w lies, it tells p -/
def Tells (P : Program) (g : Nat) (lb : Array Value) (p : Int → Bool) (w : World) : Prop :=
  ∀ (W : World) (x : Int), Below w.heap.size w W → I64 x → Calls P g (#[.int .i64 x] ++ lb) W fun e W' => e = .returned (.bool (p x)) ∧ Below W.heap.size W W'

theorem any_take_succ {α : Type} (p : α → Bool) (xs : List α) (k : Nat) (hk : k < xs.length) : (xs.take (k + 1)).any p = ((xs.take k).any p || p xs[k]) := by
  rw [List.take_succ_eq_append_getElem hk, List.any_append]; simp

set_option maxRecDepth 100000 in
set_option maxHeartbeats 1000000 in
theorem indexFuncI_any (g : Nat) (lb : Array Value) (eg : ∀ args w, (callFunc g args).run Try.prog w = .ok (.enter g args) w) (p : Int → Bool) (S : Nat → Prop) (A : Option Addr) (c : Nat) (xs : List Int) (w : World)
    (h : Sl rInt w S A c xs) (hS : ∀ b, S b → b < w.heap.size) (hp : Tells Try.prog g lb p w) :
    Calls Try.prog 53 #[.slice A xs.length c, .func (.func g) #[] lb] w fun e w' => (∃ n : Int, e = .returned (.int .i64 n) ∧ decide (0 ≤ n) = xs.any p) ∧ Below w.heap.size w w' := by
  have hl := h.le
  have hm := h.max
  unfold maxLen at hm
  have HS := Lib.hid h
  have HP := Lib.hid hp
  have HB := Lib.hid hS
  clear h hp hS
  go_enter Try.func53, Try.ntmps53
  go_wp2
  go_loopw [5, 8] (fun _ i wr => ∃ k : Nat, k ≤ xs.length ∧ i = .int .i64 (k : Int) ∧ Hid ((xs.take k).any p = false) ∧ Hid (Below w.heap.size w wr)) (fun _ i _ => xs.length - (intOf i).toNat)
  case atStart => exact ⟨0, by omega, rfl, Lib.hid (by simp), Lib.hid (Below.refl _ _)⟩
  case round =>
    obtain ⟨k, hk, rfl, HN, HX⟩ := hrel
    by_cases hlt : k < xs.length
    · obtain ⟨ad, rfl, hs, hi, hcell⟩ := HS.out.int_at hlt
      have hcell' := (HX.out.cell (HB.out _ (by rw [block_of_add]; exact hs))).trans hcell
      have hcall := HP.out wr (xs[k]'hlt) HX.out hi
      have HE := Lib.hid (any_take_succ p xs k hlt)
      have HA := Lib.hid (List.getElem_mem hlt)
      generalize xs[k]'hlt = x at *
      clear hcell hs
      cases hq : p x with
      | true =>
        rw [hq] at hcall
        have HQ := Lib.hid hq
        clear hq
        go_wp2_with fail
        refine hcall.mono ?_
        rintro e w' ⟨rfl, hb'⟩
        replace hb' := Lib.hid (HX.out.trans (hb'.mono HX.out.size))
        clear hcall
        go_wp2
        go_ret
        refine ⟨⟨_, rfl, ?_⟩, hb'.out⟩
        have : xs.any p = true := List.any_eq_true.2 ⟨x, HA.out, HQ.out⟩
        rw [this]; simp
      | false =>
        rw [hq] at hcall
        have HQ := Lib.hid hq
        clear hq
        go_wp2_with fail
        refine hcall.mono ?_
        rintro e w' ⟨rfl, hb'⟩
        replace hb' := Lib.hid (HX.out.trans (hb'.mono HX.out.size))
        clear hcall
        go_wp2
        go_roundw
        case rel => exact ⟨k + 1, by omega, by go_num, Lib.hid (by rw [HE.out, HN.out, HQ.out]; rfl), hb'⟩
        case measure => simp [intOf]; omega
    · have HE : Hid (xs.any p = false) := Lib.hid (by have := HN.out; rwa [List.take_of_length_le (by omega)] at this)
      go_wp2
      go_ret
      exact ⟨⟨_, rfl, by rw [HE.out]; rfl⟩, HX.out⟩

set_option maxRecDepth 100000 in
set_option maxHeartbeats 1000000 in
theorem containsFuncI_any (g : Nat) (lb : Array Value) (eg : ∀ args w, (callFunc g args).run Try.prog w = .ok (.enter g args) w) (p : Int → Bool) (S : Nat → Prop) (A : Option Addr) (c : Nat) (xs : List Int) (w : World)
    (h : Sl rInt w S A c xs) (hS : ∀ b, S b → b < w.heap.size) (hp : Tells Try.prog g lb p w) :
    Calls Try.prog 43 #[.slice A xs.length c, .func (.func g) #[] lb] w fun e w' => e = .returned (.bool (xs.any p)) ∧ Below w.heap.size w w' := by
  have HC := Lib.hid (indexFuncI_any g lb eg p S A c xs w h hS hp)
  clear h hS hp eg
  go_enter Try.func43, Try.ntmps43
  go_wp2_with fail
  refine HC.out.mono ?_
  rintro e w' ⟨⟨n, rfl, hn⟩, hb⟩
  have HN := Lib.hid hn
  clear hn
  go_wp2
  all_goals go_ret
  all_goals exact ⟨by rw [← HN.out]; rfl, hb⟩

set_option maxRecDepth 100000 in
set_option maxHeartbeats 1000000 in
theorem equalI_any (S : Nat → Prop) (A A2 : Option Addr) (c c2 : Nat) (xs ys : List Int) (w : World) (h : Sl rInt w S A c xs) (h2 : Sl rInt w S A2 c2 ys) :
    Calls Try.prog 40 #[.slice A xs.length c, .slice A2 ys.length c2] w fun e w' => e = .returned (.bool (decide (xs = ys))) ∧ ∃ n, w' = w.drewN n := by
  have hl := h.le
  have hm := h.max
  unfold maxLen at hm
  have HS := Lib.hid h
  have HT := Lib.hid h2
  clear h h2
  by_cases hle : xs.length = ys.length
  · have hle1 : ((xs.length : Int) != (ys.length : Int)) = false := by simp [hle]
    have hle2 : (xs.length != ys.length) = false := by simp [hle]
    have HL := Lib.hid hle
    clear hle
    go_enter Try.func40, Try.ntmps40
    go_wp2
    go_loopw [5, 13] (fun _ i wr => ∃ k n : Nat, k ≤ xs.length ∧ i = .int .i64 (k : Int) ∧ Hid (xs.take k = ys.take k) ∧ wr = w.drewN n) (fun _ i _ => xs.length - (intOf i).toNat)
    case atStart => exact ⟨0, 0, by omega, rfl, Lib.hid (by simp), rfl⟩
    case round =>
      obtain ⟨k, n, hk, rfl, HN, rfl⟩ := hrel
      by_cases hlt : k < xs.length
      · have hlt2 : k < ys.length := by rw [← HL.out]; exact hlt
        obtain ⟨ad, rfl, _, _, hcell⟩ := HS.out.int_at hlt
        obtain ⟨ad2, rfl, _, _, hcell2⟩ := HT.out.int_at hlt2
        have HE : Hid (xs.take (k + 1) = ys.take (k + 1) ↔ xs[k] = ys[k]) := Lib.hid (by
          rw [List.take_succ_eq_append_getElem hlt, List.take_succ_eq_append_getElem hlt2, HN.out]
          exact ⟨fun h => by have := List.append_cancel_left h; simpa using this, fun h => by rw [h]⟩)
        generalize xs[k]'hlt = x at *
        generalize ys[k]'hlt2 = y at *
        by_cases hxy : x = y
        · have hx1 : (x != y) = false := by simp [hxy]
          have HQ := Lib.hid hxy
          clear hxy
          go_wp2
          go_quiet (fail)
          go_wp2
          go_roundw
          case rel => exact ⟨k + 1, n + nq, by omega, by go_num, Lib.hid (HE.out.2 HQ.out), by simp⟩
          case measure => simp [intOf]; omega
        · have hx1 : (x != y) = true := by simp [hxy]
          have HQ := Lib.hid hxy
          clear hxy
          go_wp2
          go_quiet (fail)
          go_wp2
          go_ret
          refine ⟨?_, n + nq, by simp⟩
          have : xs ≠ ys := fun e => HQ.out (HE.out.1 (by rw [e]))
          simp [this]
      · have HE : Hid (xs = ys) := Lib.hid (by
          have := HN.out; rwa [List.take_of_length_le (by omega), List.take_of_length_le (by rw [← HL.out]; omega)] at this)
        go_wp2
        go_ret
        exact ⟨by rw [decide_eq_true HE.out]; rfl, n, rfl⟩
  · have hle1 : ((xs.length : Int) != (ys.length : Int)) = true := by simp; omega
    have hle2 : (xs.length != ys.length) = true := by simp [hle]
    have HL : Hid (xs ≠ ys) := Lib.hid fun e => hle (by rw [e])
    clear hle
    go_enter Try.func40, Try.ntmps40
    go_wp2
    go_ret
    exact ⟨by rw [decide_eq_false HL.out]; rfl, 0, rfl⟩
end Go.Proofs.Ytaidkboijjkbgaa
