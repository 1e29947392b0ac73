/- The walk of R.Fold. -/
import Derived.Test.YtebmdabdckebhaaA6
namespace Go.Proofs.Ytebmdabdckebhaa
open Go.RowKit

def accS (s : ByteArray) (l : List (Int × Int × Int)) (k : Nat) : ByteArray := ⟨((l.take k).flatMap (foldU s)).toArray⟩

theorem accS_size (s : ByteArray) (l : List (Int × Int × Int)) (k : Nat) : (accS s l k).size ≤ 4 * k := by
  have := foldTake_len s l k
  show ((l.take k).flatMap (foldU s)).toArray.size ≤ 4 * k
  simpa using this
theorem accS_succ (s : ByteArray) (l : List (Int × Int × Int)) (k : Nat) (hk : k < l.length) (t : ByteArray) (ht : t.data.toList = foldU s l[k]) : accS s l k ++ t = accS s l (k + 1) := by
  apply WideShapes.bytes_inj
  rw [ByteArray.data_append, Array.toList_append, ht]
  unfold accS
  rw [foldTake_succ s l k hk]
theorem accS_end (s : ByteArray) (l : List (Int × Int × Int)) (k : Nat) (hk : l.length ≤ k) : accS s l k = ⟨(l.flatMap (foldU s)).toArray⟩ := by
  unfold accS; rw [List.take_of_length_le hk]

theorem small_letter (c : Int) (h : isLetterB c = true) : isLetterB (smallS c) = true := by
  unfold isLetterB at *; simp only [decide_eq_true_eq] at *
  unfold smallS; (repeat' split) <;> omega
theorem encS_text (c : Int) (h : isLetterB c = true) : (encS c).data.toList = Lib.encodeRune c := by
  have e : encS c = Utf8.encode c := by unfold encS; rw [if_pos h]
  have hb := h; unfold isLetterB at hb; simp only [decide_eq_true_eq] at hb
  rw [e]
  unfold Lib.encodeRune
  by_cases h1 : c < 128
  · rw [← encode1 c h h1, Lib.encodeRuneZ_one (by omega) (by omega)]; rfl
  by_cases h2 : c < 2048
  · rw [← encode2 c h (by omega) h2, Lib.encodeRuneZ_two (by omega) (by omega)]; rfl
  by_cases h3 : c < 65536
  · rw [← encode3 c h (by omega) h3, Lib.encodeRuneZ_three (by omega)]; rfl
  · rw [← encode4 c h (by omega), Lib.encodeRuneZ_four (by omega) (by omega)]; rfl
theorem encS_size (c : Int) : (encS c).size ≤ 4 := by
  by_cases h : isLetterB c = true
  · have := encS_text c h
    have h2 : (encS c).data.toList.length ≤ 4 := by rw [this, Lib.encodeRune, List.length_map]; exact (Lib.encodeRuneZ_length _).2
    rw [Array.length_toList] at h2; exact h2
  · unfold encS; rw [if_neg h]; decide

set_option maxRecDepth 100000 in
set_option maxHeartbeats 2000000 in
theorem rFold_any (s : ByteArray) (hs : s.size ≤ 4294967296) (w : World) :
    Calls Try.prog 15 #[.string s] w fun e w' => e = .returned (.string ⟨(foldL s).toArray⟩) ∧ Below w.heap.size w w' := by
  have hll := units_len s s.size 0
  have hm := unit_mem s s.size 0
  have HF : Hid (foldL s = (unitsFrom s s.size 0).flatMap (foldU s)) := Lib.hid rfl
  go_enter Try.func15, Try.ntmps15
  go_wp2_with fail
  refine (rUnits_any s hs _).mono ?_
  rintro e w2 ⟨v, rfl, hown, hb2⟩
  generalize unitsFrom s s.size 0 = l at *
  obtain ⟨A, c, rfl⟩ := own_slice hown
  have hrel0 : w2.ownsRow w.heap.size 26 3 (.slice A l.length c) l.length (unitCells l) ∧ Below w.heap.size w w2 := ⟨hown, hb2⟩
  have HM := Lib.hid hm
  have Hrel0 := Lib.hid hrel0
  clear hown hb2 hm hrel0
  go_wp2
  go_loopw [3, 5] (fun out i wr => ∃ k : Nat, k ≤ l.length ∧ i = .int .i64 (k : Int) ∧ out = .string (accS s l k) ∧ wr.ownsRow w.heap.size 26 3 (.slice A l.length c) l.length (unitCells l) ∧ Below w.heap.size w wr) (fun _ i _ => l.length - (intOf i).toNat)
  case atStart => exact ⟨0, by omega, rfl, rfl, Hrel0.out.1, Hrel0.out.2⟩
  case round =>
    obtain ⟨k, hk, rfl, rfl, hown, hnx⟩ := hrel
    have hsz := hnx.size
    have HX := Lib.hid hnx
    by_cases hlt : k < l.length
    · obtain ⟨g, rfl, _, hg1, hg2, c0, c1, c2⟩ := row3_at hown hlt
      obtain ⟨a, ha, he⟩ := HM.out _ (List.getElem_mem hlt)
      have HS := Lib.hid (accS_succ s l k hlt)
      have HT := Lib.hid (unit_text s a ha)
      have hend := atR_end s a ha
      have hn1 := atR_2 s a
      have hz := accS_size s l k
      obtain ⟨n, hn⟩ : ∃ n : Nat, (atR s a).2 = (n : Int) := ⟨(atR s a).2.toNat, by omega⟩
      have HN := Lib.hid hn
      rw [he] at c0 c1 c2 HS
      dsimp only at c0 c1 c2
      rw [hn] at c1 hend hn1 HT
      rw [Int.toNat_natCast] at HT
      have hr := atR_1 s a
      have hal := hown.alloc (.cells #[.int .i64 a, .int .i64 n, .int .i64 (atR s a).1] 26)
      have HO := Lib.hid hal
      clear hnx he hal hown hn
      by_cases hneg : (atR s a).1 < 0
      · have HU : Hid (accS s l k ++ s.extract a (a + n) = accS s l (k + 1)) := Lib.hid (HS.out _ (by rw [HT.out, if_pos hneg]; unfold foldU; rw [if_pos hneg]; simp))
        have hd : decide (0 ≤ (atR s a).1) = false := by simp; omega
        go_wp2
        go_quiet (fail)
        go_wp2
        rw [HU.out]
        exact ⟨⟨k + 1, by omega, by go_num, rfl, own_drewN HO.out _, below_drewN (HX.out.alloc hsz _) _⟩, by simp [intOf]; omega⟩
      · have hd : decide (0 ≤ (atR s a).1) = true := by simp; omega
        have hlet := atR_letter s a (by omega)
        have hsb := small_bd (atR s a).1 (by omega) hr.2
        obtain ⟨hr0, hr1⟩ := hr
        obtain ⟨hs0, hs1⟩ := hsb
        by_cases heq : smallS (atR s a).1 = (atR s a).1
        · have HU : Hid (accS s l k ++ s.extract a (a + n) = accS s l (k + 1)) := Lib.hid (HS.out _ (by rw [HT.out, if_neg hneg]; unfold foldU; rw [if_neg hneg, heq]))
          have hd2 : (smallS (atR s a).1 != (atR s a).1) = false := by simp [heq]
          clear heq
          go_wp2
          go_quiet ((go_at_call 32; exact quiet_left (rSmall_any _ hr0 hr1 _)))
          go_wp2
          rw [HU.out]
          exact ⟨⟨k + 1, by omega, by go_num, rfl, own_drewN HO.out _, below_drewN (HX.out.alloc hsz _) _⟩, by simp [intOf]; omega⟩
        · have hd2 : (smallS (atR s a).1 != (atR s a).1) = true := by simp [heq]
          have hsl := small_letter _ hlet
          have HU : Hid (accS s l k ++ encS (smallS (atR s a).1) = accS s l (k + 1)) := Lib.hid (HS.out _ (by rw [encS_text _ hsl]; unfold foldU; rw [if_neg hneg]))
          have hz2 := encS_size (smallS (atR s a).1)
          clear heq
          go_wp2
          go_quiet ((go_at_call 32; exact quiet_left (rSmall_any _ hr0 hr1 _)))
          have HB := Lib.hid (below_drewN (HX.out.alloc hsz (.cells #[.int .i64 a, .int .i64 n, .int .i64 (atR s a).1] 26)) nq)
          have HO2 := Lib.hid (own_drewN HO.out nq)
          have hsz2 := HB.out.size
          go_wp2_with fail
          refine (rSmall_any _ hr0 hr1 _).mono ?_
          rintro e w3 ⟨rfl, rfl⟩
          go_wp2_with fail
          refine (rEncode_any _ _).mono ?_
          rintro e w3 ⟨rfl, hb3⟩
          have hfin := Lib.hid (And.intro (own_below_all HO2.out hb3) (HB.out.trans (hb3.mono hsz2)))
          clear hb3
          go_wp2
          rw [HU.out]
          exact ⟨⟨k + 1, by omega, by go_num, rfl, hfin.out.1, hfin.out.2⟩, by simp [intOf]; omega⟩
    · have HE := Lib.hid (accS_end s l k (by omega))
      clear hown hnx
      go_wp2
      go_ret
      rw [HF.out]
      exact ⟨by rw [← HE.out]; rfl, HX.out⟩
end Go.Proofs.Ytebmdabdckebhaa
