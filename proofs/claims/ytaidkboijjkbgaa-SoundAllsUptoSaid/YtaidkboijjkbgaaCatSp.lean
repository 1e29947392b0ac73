/- slices.Grow of nil and slices.Concat at one element type. Conditions: fewer than 2^32 elements in all. -/
import Derived.Test.YtaidkboijjkbgaaRd
import Derived.Lib.AppendZerosOnto
import Derived.Lib.Walk
import Derived.Lib.SliceRun
namespace Go.Proofs.Ytaidkboijjkbgaa
open Go.RowKit

theorem infoSp : (Try.prog.info? 60).map (fun i => (i.zero, i.size, i.bytes)) = some (some (.agg #[.slice none 0 0, .bool false]), 2, 32) := by kernel_rfl

set_option maxRecDepth 100000 in
set_option maxHeartbeats 1000000 in
theorem growSp_any (n : Nat) (hn : n ≤ 4294967296) (w : World) :
    Calls Try.prog 47 #[.slice none 0 0, .int .i64 (n : Int)] w fun e w' => ∃ v, e = .returned v ∧ w'.ownsRow w.heap.size 60 2 v 0 [] ∧ Below w.heap.size w w' := by
  obtain ⟨i0, hi, hz0, hz1, hz2⟩ := info_parts infoSp
  by_cases h0 : n = 0
  · subst h0
    go_enter Try.func47, Try.ntmps47
    go_wp2
    go_ret
    exact ⟨_, rfl, ownsRow_none _ _ _ _, Below.refl _ _⟩
  · have hrz : ∀ ty, (Builtin.append_ #[23, 3] ty #[.slice none 0 0, .int .i64 (n : Int)]).run Try.prog w =
        .ok (.slice (some ⟨w.heap.size, 0, none⟩) n (grownCap w n 0 60)) (w.drew.alloc (.cells (#[] ++ Builtin.zeroCells (.agg #[.slice none 0 0, .bool false] : Value).cells n ++ Builtin.zeroCells (.agg #[.slice none 0 0, .bool false] : Value).cells (grownCap w n 0 60 - n)) 60)) := fun ty => by
      have h := Lib.run_append_grow_zeros (P := Try.prog) w 23 3 ty 60 i0 (.agg #[.slice none 0 0, .bool false]) .i64 .i64 Try.underlying23 Try.underlying3 hi hz0 none 0 0 [] (run_firstCells_none w.drew i0.size 0 0 0) n (by omega) (by omega) (by omega) (by omega)
        (by rw [hz2]; omega) (growslice_fits (by omega) (by rw [hz2]; omega))
      simpa using h
    have hG := grownCap_ge w n 0 60
    have hM := grownCap_le_maxLen w n 0 60 (by unfold maxLen; omega)
    generalize grownCap w n 0 60 = G at *
    have hcz : (#[] ++ Builtin.zeroCells (.agg #[.slice none 0 0, .bool false] : Value).cells n ++ Builtin.zeroCells (.agg #[.slice none 0 0, .bool false] : Value).cells (G - n)).size = G * 2 := by
      rw [Array.size_append, Array.size_append, size_zeroCells, size_zeroCells]
      have : (.agg #[.slice none 0 0, .bool false] : Value).cells.size = 2 := rfl
      rw [this]; simp; omega
    generalize (#[] ++ Builtin.zeroCells (.agg #[.slice none 0 0, .bool false] : Value).cells n ++ Builtin.zeroCells (.agg #[.slice none 0 0, .bool false] : Value).cells (G - n)) = cells at *
    have HOWN : Hid ((w.drew.alloc (.cells cells 60)).ownsRow w.heap.size 60 2 (.slice (some ⟨w.heap.size, 0, none⟩) 0 G) 0 []) :=
      Lib.hid ⟨rfl, .inr ⟨w.heap.size, G, _, rfl, Nat.le_refl _, Blk.new w.drew _ _, by omega, hM, hcz, by simp⟩⟩
    unfold maxLen at hM
    have HB : Hid (Below w.heap.size w (w.drew.alloc (.cells cells 60))) := Lib.hid ((Below.refl _ _).drew.alloc (Nat.le_refl _) _)
    clear hcz
    have h1 : (0 : Int) < (n : Int) := by omega
    have hpos : 0 < n := by omega
    go_enter Try.func47, Try.ntmps47
    go_wp2_with (at_builtin; refine Lib.wpList_append_run _ rfl _ _ _ _ rfl _ _ rfl rfl _ _ (hrz _) ?_)
    all_goals go_ret
    all_goals exact ⟨_, rfl, HOWN.out, HB.out⟩

section
variable {α : Type} {ρ : Rep α} {S : Nat → Prop}
theorem flat_nextSp (xss : List (List α)) (k : Nat) (hk : k < xss.length) : (xss.take (k + 1)).flatten = (xss.take k).flatten ++ xss[k] := by
  rw [List.take_succ_eq_append_getElem hk, List.flatten_append]; simp
theorem flat_lenSp (xss : List (List α)) (k : Nat) : (xss.take k).flatten.length ≤ xss.flatten.length := by
  have h : xss.flatten = (xss.take k).flatten ++ (xss.drop k).flatten := by rw [← List.flatten_append, List.take_append_drop]
  rw [h, List.length_append]; omega

set_option maxRecDepth 100000 in
set_option maxHeartbeats 2000000 in
theorem concatSp_any (hρ : ρ.size = 2) (A : Option Addr) (c : Nat) (xss : List (List α)) (w : World) (h : Sl (rList ρ) w S A c xss) (hS : ∀ b, S b → b < w.heap.size) (hn : xss.flatten.length ≤ 4294967296) :
    Calls Try.prog 30 #[.slice A xss.length c] w fun e w' => (∃ v cs, e = .returned v ∧ w'.ownsRow w.heap.size 60 2 v xss.flatten.length cs ∧ Elems ρ w' S cs xss.flatten) ∧ Below w.heap.size w w' := by
  obtain ⟨i0, hi, hz0, hz1, hz2⟩ := info_parts infoSp
  have hl := h.le
  have hm := h.max
  unfold maxLen at hm
  have HS := Lib.hid h
  have HI := Lib.hid hS
  have HR := Lib.hid hρ
  clear h hS hρ
  go_enter Try.func30, Try.ntmps30
  go_wp2
  go_loop [3, 5, 11] (fun n _ i => ∃ k m : Nat, k ≤ xss.length ∧ i = .int .i64 (k : Int) ∧ n = .int .i64 (m : Int) ∧ Hid (m = (xss.take k).flatten.length)) (fun _ _ i => xss.length - (intOf i).toNat)
  case atStart => exact ⟨0, 0, by omega, rfl, rfl, Lib.hid (by simp)⟩
  case round =>
    obtain ⟨k, m, hk, rfl, rfl, HM⟩ := hrel
    have hm1 : m ≤ 4294967296 := by have := flat_lenSp xss k; rw [← HM.out] at this; omega
    by_cases hlt : k < xss.length
    · obtain ⟨ad, u, rfl, _, ⟨A1, c1, rfl, hsl⟩, hcells⟩ := HS.out.at_ hlt
      have hcell := hcells 0 _ rfl
      have hm2 : m + (xss[k]'hlt).length ≤ 4294967296 := by
        have h1 := congrArg List.length (flat_nextSp xss k hlt)
        rw [List.length_append, ← HM.out] at h1
        have h2 := flat_lenSp xss (k + 1)
        omega
      have HE : Hid (m + (xss[k]'hlt).length = (xss.take (k + 1)).flatten.length) := Lib.hid (by
        rw [flat_nextSp xss k hlt, List.length_append, ← HM.out])
      clear hcells hsl
      simp only [rList, Nat.mul_one, Nat.add_zero] at hcell
      generalize xss[k]'hlt = ys at *
      go_wp2
      go_round
      case rel => exact ⟨k + 1, m + ys.length, by omega, by go_num, by go_num, HE⟩
      case measure => simp [intOf]; omega
    · obtain rfl : k = xss.length := by omega
      have HN : Hid (m = xss.flatten.length) := Lib.hid (by have := HM.out; rwa [List.take_length] at this)
      clear HM
      go_wp2_with fail
      refine (growSp_any _ hm1 _).mono ?_
      rintro e w1 ⟨v, rfl, hown, hb⟩
      have HO := Lib.hid hown
      have HB := Lib.hid hb
      clear hown hb
      go_wp2
      go_loopw [6, 8, 27] (fun v _ i wr => ∃ (k : Nat) (cs : List Value), k ≤ xss.length ∧ i = .int .i64 (k : Int) ∧ Hid (wr.ownsRow w.heap.size 60 2 v (xss.take k).flatten.length cs ∧ Elems ρ wr S cs (xss.take k).flatten) ∧ Hid (Below w.heap.size w wr)) (fun _ _ i _ => xss.length - (intOf i).toNat)
      case atStart => exact ⟨0, [], by omega, rfl, Lib.hid ⟨by simpa using HO.out, by simpa using Elems.nil_⟩, HB⟩
      case round =>
        obtain ⟨k, cs, hk, rfl, HW, HX⟩ := hrel
        have hsz := HX.out.size
        by_cases hlt : k < xss.length
        · obtain ⟨ad, u, hA, _, ⟨A1, c1, rfl, hsl⟩, hcells⟩ := (HS.out.below HI.out HX.out).at_ hlt
          subst hA
          have hcell := hcells 0 _ rfl
          have hE := flat_nextSp xss k hlt
          have hF : (xss.take k).flatten.length + (xss[k]'hlt).length ≤ 4294967296 := by
            have h1 := congrArg List.length hE
            rw [List.length_append] at h1
            have h2 := flat_lenSp xss (k + 1)
            omega
          have HF := Lib.hid hF
          clear hF
          obtain ⟨news, hne, hrd⟩ := hsl.reads (B := w.heap.size) HI.out
          rw [HR.out] at hrd
          have HN := Lib.hid hne
          have HE := Lib.hid hE
          simp only [rList, Nat.mul_one, Nat.add_zero] at hcell
          generalize xss[k]'hlt = ys at *
          clear hcells hsl hE hne
          go_wp2_with (at_builtin; refine wpList_append_any _ rfl _ _ 23 rfl w.heap.size 60 i0 _ 2 32 Try.underlying23 hi hz0 hz1 hz2 rfl (by decide) _ _ cs rfl HW.out.1 w.heap.size A1 ys.length c1 news rfl hrd HN.out.2.1 ?c3 ?c4 hsz ?_)
          case c3 => have := HF.out; unfold maxLen; omega
          case c4 => have := HF.out; omega
          intro v' w2 hown2 hg2 hat2
          have hb2 : Hid (Below w.heap.size w w2) := Lib.hid (HX.out.grown hg2 hsz (own_ge HW.out.1))
          have hw2 : Hid (w2.ownsRow w.heap.size 60 2 v' (xss.take (k + 1)).flatten.length (cs ++ news) ∧ Elems ρ w2 S (cs ++ news) (xss.take (k + 1)).flatten) := by
            refine Lib.hid ?_
            rw [HE.out, List.length_append]
            have hk : ∀ p : Addr, S p.block → w2.cell? p = wr.cell? p := fun p hp => (hb2.out.cell (HI.out _ hp)).trans (HX.out.cell (HI.out _ hp)).symm
            exact ⟨by simpa using hown2, (HW.out.2.keep hk).app (HN.out.keep hk)⟩
          clear hown2 hg2 hat2 hrd
          go_wp2
          go_roundw
          case rel => exact ⟨k + 1, _, by omega, by go_num, hw2, hb2⟩
          case measure => simp [intOf]; omega
        · obtain rfl : k = xss.length := by omega
          have HZ : Hid (wr.ownsRow w.heap.size 60 2 u6 xss.flatten.length cs ∧ Elems ρ wr S cs xss.flatten) := Lib.hid (by have := HW.out; rwa [List.take_length] at this)
          go_wp2
          go_ret
          exact ⟨⟨_, _, rfl, HZ.out.1, HZ.out.2⟩, HX.out⟩
end
end Go.Proofs.Ytaidkboijjkbgaa
