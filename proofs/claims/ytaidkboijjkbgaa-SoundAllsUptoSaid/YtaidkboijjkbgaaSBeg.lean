/- The walk of soundBegun. -/
import Derived.Test.YtaidkboijjkbgaaApl
namespace Go.Proofs.Ytaidkboijjkbgaa
open Go.RowKit

theorem Sl.lit {w : World} {S : Nat → Prop} {g t n : Nat} {xs : List Int} (h : Blk w g t (ints xs).toArray) (hg : S g) (hi : ∀ x ∈ xs, I64 x) (hn : n = xs.length) (hm : xs.length ≤ 1000) : Sl rInt w S (some ⟨g, 0, none⟩) n xs := by
  subst hn
  refine ⟨Nat.le_refl _, by unfold maxLen; omega, fun i x hx => ⟨_, [.int .i64 x], rfl, hg, ⟨rfl, hi x (List.mem_of_getElem? hx)⟩, fun j z hz => ?_⟩⟩
  have : j = 0 := by have := (List.getElem?_eq_some_iff.1 hz).1; simpa using this
  subst this
  simp at hz; subst hz
  have e : Addr.add ⟨g, 0, none⟩ (i * rInt.size + 0) = ⟨g, i, none⟩ := by
    unfold Addr.add; simp only [rInt, Nat.mul_one, Nat.add_zero]; split
    · rename_i h; rw [h]
    · simp
  rw [e, h.cell]; simp [ints, hx]
theorem alloc_old {w : World} {o x : Obj} {i : Nat} (h : w.heap[i]? = some x) : (w.alloc o).heap[i]? = some x := (Below.heap_alloc w o i (Array.getElem?_eq_some_iff.1 h).1).trans h
theorem alloc_top {w : World} {o : Obj} {i : Nat} (h : i = w.heap.size) : (w.alloc o).heap[i]? = some o := by subst h; exact heap_alloc_new w o
theorem chain5 (w : World) (o0 o1 o2 o3 o4 : Obj) : (((((w.alloc o0).alloc o1).alloc o2).alloc o3).alloc o4).heap[w.heap.size]? = some o0 ∧ (((((w.alloc o0).alloc o1).alloc o2).alloc o3).alloc o4).heap[w.heap.size + 1]? = some o1 ∧
    (((((w.alloc o0).alloc o1).alloc o2).alloc o3).alloc o4).heap[w.heap.size + 2]? = some o2 ∧ (((((w.alloc o0).alloc o1).alloc o2).alloc o3).alloc o4).heap[w.heap.size + 3]? = some o3 ∧ (((((w.alloc o0).alloc o1).alloc o2).alloc o3).alloc o4).heap[w.heap.size + 4]? = some o4 := by
  exact ⟨alloc_old (alloc_old (alloc_old (alloc_old (alloc_top rfl)))), alloc_old (alloc_old (alloc_old (alloc_top (by simp)))), alloc_old (alloc_old (alloc_top (by simp))), alloc_old (alloc_top (by simp)), alloc_top (by simp)⟩

theorem begun_lit : applyE 2 [1] [2] [([2], true)] [] [1, 1, 2, 1] = 0 ∧ applyR 2 [1] [2] [([2], true)] [] [1, 1, 2, 1] = [2, 2, 2, 2] := by decide +kernel

set_option maxRecDepth 100000 in
set_option maxHeartbeats 2000000 in
theorem soundBegun_any (w : World) : Calls Try.prog 9 #[] w fun e w' => e = .returned (.bool true) ∧ Below w.heap.size w w' := by
  obtain ⟨c0, c1, c2, c3, c4⟩ := chain5 w (.cells #[.int .i64 1] 3) (.cells #[.int .i64 2] 3) (.cells #[.int .i64 2] 3) (.cells #[.slice (some ⟨w.heap.size + 2, 0, none⟩) 1 1, .bool true] 60) (.cells #[.int .i64 1, .int .i64 1, .int .i64 2, .int .i64 1] 3)
  have hX : Below w.heap.size w (((((w.alloc (.cells #[.int .i64 1] 3)).alloc (.cells #[.int .i64 2] 3)).alloc (.cells #[.int .i64 2] 3)).alloc (.cells #[.slice (some ⟨w.heap.size + 2, 0, none⟩) 1 1, .bool true] 60)).alloc (.cells #[.int .i64 1, .int .i64 1, .int .i64 2, .int .i64 1] 3)) :=
    (((((Below.refl _ _).alloc (Nat.le_refl _) _).alloc (by simp) _).alloc (by simp; omega) _).alloc (by simp; omega) _).alloc (by simp; omega) _
  have hz : (((((w.alloc (.cells #[.int .i64 1] 3)).alloc (.cells #[.int .i64 2] 3)).alloc (.cells #[.int .i64 2] 3)).alloc (.cells #[.slice (some ⟨w.heap.size + 2, 0, none⟩) 1 1, .bool true] 60)).alloc (.cells #[.int .i64 1, .int .i64 1, .int .i64 2, .int .i64 1] 3)).heap.size = w.heap.size + 5 := by simp
  have one64 : ∀ x ∈ [(1 : Int)], I64 x := by intro x hx; simp at hx; subst hx; exact i64_of (by decide) (by decide)
  have two64 : ∀ x ∈ [(2 : Int)], I64 x := by intro x hx; simp at hx; subst hx; exact i64_of (by decide) (by decide)
  have four64 : ∀ x ∈ [(1 : Int), 1, 2, 1], I64 x := by
    intro x hx
    have h : x = 1 ∨ x = 2 := by simp at hx; omega
    exact i64_of (by omega) (by omega)
  have HX := Lib.hid hX
  have HZ := Lib.hid hz
  generalize hW : ((((w.alloc (.cells #[.int .i64 1] 3)).alloc (.cells #[.int .i64 2] 3)).alloc (.cells #[.int .i64 2] 3)).alloc (.cells #[.slice (some ⟨w.heap.size + 2, 0, none⟩) 1 1, .bool true] 60)).alloc (.cells #[.int .i64 1, .int .i64 1, .int .i64 2, .int .i64 1] 3) = W at *
  have h0 : Sl rInt W (fun b => b < w.heap.size + 5) (some ⟨w.heap.size, 0, none⟩) 1 [1] := Sl.lit (t := 3) c0 (by omega) one64 rfl (by simp)
  have h1 : Sl rInt W (fun b => b < w.heap.size + 5) (some ⟨w.heap.size + 1, 0, none⟩) 1 [2] := Sl.lit (t := 3) c1 (by omega) two64 rfl (by simp)
  have h2 : Sl rInt W (fun b => b < w.heap.size + 5) (some ⟨w.heap.size + 2, 0, none⟩) 1 [2] := Sl.lit (t := 3) c2 (by omega) two64 rfl (by simp)
  have h4 : Sl rInt W (fun b => b < w.heap.size + 5) (some ⟨w.heap.size + 4, 0, none⟩) 4 [1, 1, 2, 1] := Sl.lit (t := 3) c4 (by omega) four64 rfl (by simp)
  have h3 : Sl rSpot W (fun b => b < w.heap.size + 5) (some ⟨w.heap.size + 3, 0, none⟩) 1 [([2], true)] := by
    refine ⟨by simp, by simp [maxLen], fun i x hx => ?_⟩
    have hi0 : i = 0 := by have := (List.getElem?_eq_some_iff.1 hx).1; simpa using this
    subst hi0
    simp at hx; subst hx
    refine ⟨_, _, rfl, by show w.heap.size + 3 < w.heap.size + 5; omega, spot_mk (A := some ⟨w.heap.size + 2, 0, none⟩) (c := 1) h2, fun j z hz => ?_⟩
    have hb : Blk W (w.heap.size + 3) 60 #[.slice (some ⟨w.heap.size + 2, 0, none⟩) 1 1, .bool true] := c3
    match j with
    | 0 => simp at hz; subst hz; exact hb.cell 0
    | 1 => simp at hz; subst hz; exact hb.cell 1
    | j + 2 => simp at hz
  have hnil : Sl rSpot W (fun b => b < w.heap.size + 5) none 0 [] := Sl.nil_
  have HC := Lib.hid (sApply_any (fun b => b < w.heap.size + 5) 2 [1] [2] [([2], true)] [] _ _ _ _ _ _ _ _ [1, 1, 2, 1] _ _ W h0 h1 h3 hnil h4 (by intro b hb; rw [HZ.out]; exact hb) (by simp))
  subst hW
  clear h0 h1 h2 h3 h4 hnil c0 c1 c2 c3 c4 hX hz one64 two64 four64
  go_enter Try.func9, Try.ntmps9
  go_wp2_with fail
  refine HC.out.mono ?_
  rintro e w1 ⟨⟨v, rfl, hown, hm⟩, hb⟩
  rw [begun_lit.2] at hown hm
  rw [begun_lit.1]
  obtain ⟨A, c, rfl⟩ := own_slice hown
  have HX1 := Lib.hid (HX.out.trans (hb.mono HX.out.size))
  have HS1 : Hid (Sl rInt w1 (fun b => b < w1.heap.size) A c [2, 2, 2, 2]) := Lib.hid (Sl.of_own (ρ := rInt) hown (I64s hm) (own_lt hown))
  clear hown hm hb HC HX HZ
  have hX2 : Below w1.heap.size w1 (w1.alloc (.cells #[.int .i64 2, .int .i64 2, .int .i64 2, .int .i64 2] 3)) := (Below.refl _ _).alloc (Nat.le_refl _) _
  have HC2 := Lib.hid (same_any (fun b => b < w1.heap.size + 1) A (some ⟨w1.heap.size, 0, none⟩) c 4 [2, 2, 2, 2] [2, 2, 2, 2] _ ((HS1.out.below (fun b h => h) hX2).more fun b h => Nat.lt_succ_of_lt h)
    (Sl.lit (Blk.new w1 3 (ints [2, 2, 2, 2]).toArray) (by omega) (by intro x hx; have h : x = 2 := by { simp at hx; exact hx }; exact i64_of (by omega) (by omega)) rfl (by simp)))
  have HX2 := Lib.hid (HX1.out.trans (hX2.mono HX1.out.size))
  clear hX2 HS1 HX1
  go_wp2_with fail
  refine HC2.out.mono ?_
  rintro e w2 ⟨rfl, n, rfl⟩
  simp only [decide_true]
  go_wp2
  go_ret
  exact ⟨rfl, below_drewN HX2.out _⟩
end Go.Proofs.Ytaidkboijjkbgaa
