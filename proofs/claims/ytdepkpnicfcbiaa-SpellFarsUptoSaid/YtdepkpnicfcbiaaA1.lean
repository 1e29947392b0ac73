/- The walks of R.lead, R.IsLetter, R.LetterAt, R.Units. -/
import Derived.Test.YtdepkpnicfcbiaaP2
namespace Go.Proofs.Ytdepkpnicfcbiaa
open Go.RowKit

set_option maxHeartbeats 400000 in
theorem lead_any (b : Int) (h0 : 0 ≤ b) (h1 : b ≤ 255) (w : World) :
    Calls Try.prog 23 #[.int .i64 b] w fun e w' => e = .returned (.tuple #[.int .i64 (leadN b), .int .i64 (leadC b), .int .i64 (leadL b)]) ∧ w = w' := by
  go_enter Try.func23, Try.ntmps23
  go_wp2
  all_goals go_ret3
  all_goals refine ⟨?_, rfl⟩
  all_goals refine ret_tup3 ?_ ?_ ?_
  all_goals first | unfold leadN | unfold leadC | unfold leadL
  all_goals (repeat' split) <;> omega

set_option maxHeartbeats 400000 in
theorem isLetter_any (c : Int) (w : World) :
    Calls Try.prog 24 #[.int .i64 c] w fun e w' => e = .returned (.bool (isLetterB c)) ∧ w = w' := by
  go_enter Try.func24, Try.ntmps24
  go_wp2
  all_goals go_ret
  all_goals refine ⟨ret_bool ?_, rfl⟩
  all_goals unfold isLetterB
  all_goals (rw [Bool.eq_iff_iff]; simp; try omega)

set_option maxRecDepth 100000 in
set_option maxHeartbeats 1000000 in
theorem letterAt_any (s : ByteArray) (a : Nat) (ha : a < s.size) (hs : s.size ≤ 4294967296) (w : World) :
    Calls Try.prog 19 #[.string s, .int .i64 a] w fun e w' => e = .returned (.tuple #[.int .i64 (atR s a).1, .int .i64 (atR s a).2]) ∧ w = w' := by
  obtain ⟨hb0, hb1⟩ := byteI_bd s a
  obtain ⟨hn0, hn1⟩ := leadN_bd (byteI s a)
  have E := byteI_conv s a ha
  have B1 := Lib.hid (@atR_bad1 s a)
  have B2 := Lib.hid (@atR_bad2 s a)
  have B3 := Lib.hid (@atR_bad3 s a)
  have B4 := Lib.hid (@atR_good s a)
  by_cases h0 : leadN (byteI s a) = 0
  · have H0 := Lib.hid h0
    have h0' : (leadN (byteI s a) == 0) = true := by simp [h0]
    clear h0
    go_enter Try.func19, Try.ntmps19
    go_wp2_with (go_at_call 23; refine (lead_any _ hb0 hb1 _).mono ?_; rintro e w' ⟨rfl, rfl⟩)
    go_ret2
    rw [B1.out (.inl H0.out)]
    exact ⟨rfl, rfl⟩
  have h0' : (leadN (byteI s a) == 0) = false := by simp [h0]
  by_cases h1 : (s.size : Int) < a + leadN (byteI s a)
  · have H1 := Lib.hid h1
    go_enter Try.func19, Try.ntmps19
    go_wp2_with (go_at_call 23; refine (lead_any _ hb0 hb1 _).mono ?_; rintro e w' ⟨rfl, rfl⟩)
    go_ret2
    rw [B1.out (.inr H1.out)]
    exact ⟨rfl, rfl⟩
  have h1' : (a : Int) + leadN (byteI s a) ≤ s.size := by omega
  obtain ⟨hc0, hc1⟩ := leadC_bd (byteI s a) hb0
  have N1 := Lib.hid (not_or.2 ⟨h0, h1⟩)
  have hpos : 0 < leadN (byteI s a) := by omega
  clear h0 h1
  go_enter Try.func19, Try.ntmps19
  go_wp2_with (go_at_call 23; refine (lead_any _ hb0 hb1 _).mono ?_; rintro e w' ⟨rfl, rfl⟩)
  go_loop [7, 9] (fun c k => ∃ j : Nat, (j : Int) + 1 ≤ leadN (byteI s a) ∧ k = .int .i64 (1 + (j : Int)) ∧ contOk s a j = true ∧ c = .int .i64 (contC s a (leadC (byteI s a)) j)) (fun _ k => (leadN (byteI s a) - intOf k).toNat)
  case atStart => exact ⟨0, by omega, rfl, rfl, rfl⟩
  case round =>
    obtain ⟨j, hj, rfl, hok, rfl⟩ := hrel
    have OK := Lib.hid hok
    obtain ⟨hd0, hd1⟩ := contC_bd s a _ hc0 hc1 j hok (by omega)
    have hbig : bigC j ≤ 100000000 := by unfold bigC; split <;> omega
    clear hok
    by_cases hlt : 1 + (j : Int) < leadN (byteI s a)
    · have E2 := byteI_conv s (a + (1 + j)) (by omega)
      obtain ⟨hg0, hg1⟩ := byteI_bd s (a + (1 + j))
      go_wp2
      all_goals first
        | (go_ret2
           have hbad : contOk s a (j + 1) = false := by
             rw [contOk, OK.out]; simp; omega
           rw [B2.out (contOk_bad (j := j) (by omega) hbad)]
           exact ⟨rfl, rfl⟩)
        | (have hin : 128 ≤ byteI s (a + (1 + j)) ∧ byteI s (a + (1 + j)) ≤ 191 := by assumption
           go_round
           case rel => exact ⟨j + 1, by omega, by go_num, by rw [contOk, OK.out]; simpa using hin, by rw [contC]⟩
           case measure => simp [intOf]; omega)
    · have hje : (leadN (byteI s a)).toNat - 1 = j := by omega
      have hle : leadN (byteI s a) = 1 + (j : Int) := by omega
      rw [hje] at B2 B3 B4
      have HJ := Lib.hid hle
      clear hje hle
      go_wp2_with (go_at_call 24; refine (isLetter_any _ _).mono ?_; rintro e w' ⟨rfl, rfl⟩)
      all_goals go_ret2
      · have hb : contC s a (leadC (byteI s a)) j < leadL (byteI s a) ∨ (!isLetterB (contC s a (leadC (byteI s a)) j)) = true := by assumption
        rw [B3.out (by simpa using hb)]
        exact ⟨rfl, rfl⟩
      · have hb : leadL (byteI s a) ≤ contC s a (leadC (byteI s a)) j ∧ (!isLetterB (contC s a (leadC (byteI s a)) j)) = false := by assumption
        rw [B4.out N1.out OK.out (by simpa using hb)]
        exact ⟨rfl, rfl⟩
      · have hb : contC s a (leadC (byteI s a)) j < leadL (byteI s a) := by assumption
        rw [B3.out (.inl hb)]
        exact ⟨rfl, rfl⟩

theorem unit_info : (Try.prog.info? 45).map (fun i => (i.zero, i.size, i.bytes)) = some (some (.agg #[.int .i64 0, .int .i64 0, .int .i64 0]), 3, 24) := by kernel_rfl

set_option maxRecDepth 100000 in
set_option maxHeartbeats 1000000 in
theorem rUnits_any (s : ByteArray) (hs : s.size ≤ 4294967296) (w : World) :
    Calls Try.prog 15 #[.string s] w fun e w' => ∃ v, e = .returned v ∧
      w'.ownsRow w.heap.size 45 3 v (unitsFrom s s.size 0).length (unitCells (unitsFrom s s.size 0)) ∧ Below w.heap.size w w' := by
  obtain ⟨i0, hi, hz0, hz1, hz2⟩ := info_parts unit_info
  go_enter Try.func15, Try.ntmps15
  go_wp2
  go_loopw [3, 4] (fun out at_ wr => ∃ (a m : Nat) (l : List (Int × Int × Int)), a ≤ s.size ∧ l.length ≤ a ∧ at_ = .int .i64 (a : Int) ∧ Hid (unitsFrom s s.size 0 = l ++ unitsFrom s m a) ∧ Hid (s.size - a ≤ m) ∧
      wr.ownsRow w.heap.size 45 3 out l.length (unitCells l) ∧ Below w.heap.size w wr) (fun _ a _ => s.size - (intOf a).toNat)
  case atStart => exact ⟨0, s.size, [], by omega, by simp, rfl, Lib.hid rfl, Lib.hid (by omega), ⟨by simp [unitCells], .inl ⟨rfl, rfl⟩⟩, Below.refl _ _⟩
  case round =>
    obtain ⟨a, m, l, ha, hl, rfl, HU, HM, hown, hnx⟩ := hrel
    by_cases hlt : a < s.size
    · have ⟨h1, h2⟩ := atR_1 s a
      have ⟨h3, h4⟩ := atR_2 s a
      have h5 := atR_end s a hlt
      go_wp2_with (first
        | (go_at_call 19; refine (letterAt_any s a hlt hs _).mono ?_; rintro e w' ⟨rfl, rfl⟩)
        | (at_builtin; refine wpList_append_own _ rfl _ _ 42 rfl w.heap.size 45 i0 _ 3 24 Try.underlying42 hi hz0 hz1 hz2 rfl (by decide) _ _ _ rfl (hown.alloc _) ⟨wr.heap.size, 0, none⟩ 1 1 [.int .i64 a, .int .i64 (atR s a).2, .int .i64 (atR s a).1] rfl rfl ?c1 ?c2 ?c3 ?c4 ?c5 ?_))
      case c1 => exact cells_new _ [_, _, _] _
      case c2 => exact one3 _ _ _ _ _ _
      case c3 => unfold maxLen; omega
      case c4 => omega
      case c5 => have := hnx.size; simp; omega
      intro v' w1 hown1 hg1 _
      have hb1 : Below w.heap.size w w1 := ((hnx.alloc hnx.size _).grown hg1 (by have := hnx.size; simp; omega) (own_ge hown))
      have HU' : Hid (unitsFrom s s.size 0 = (l ++ [((a : Int), (atR s a).2, (atR s a).1)]) ++ unitsFrom s (m - 1) (a + (atR s a).2.toNat)) := by
        have hm := HM.out
        obtain ⟨k, rfl⟩ : ∃ k, m = k + 1 := ⟨m - 1, by omega⟩
        refine Lib.hid (HU.out.trans ?_)
        rw [unitsFrom, if_pos hlt]; simp
      have HM' : Hid (s.size - (a + (atR s a).2.toNat) ≤ m - 1) := by have hm := HM.out; exact Lib.hid (by omega)
      clear HU HM hown hnx
      go_wp2
      go_roundw
      case rel => exact ⟨a + (atR s a).2.toNat, m - 1, l ++ [((a : Int), (atR s a).2, (atR s a).1)], by omega, by simp; omega, by rw [show ((a + (atR s a).2.toNat : Nat) : Int) = a + (atR s a).2 from by omega], HU', HM', by simpa [unitCells] using hown1, hb1⟩
      case measure => simp [intOf]; omega
    · have HE : Hid (unitsFrom s s.size 0 = l) := by
        refine Lib.hid (HU.out.trans ?_)
        cases m <;> simp [unitsFrom, hlt]
      clear HU
      go_wp2
      go_ret
      rw [HE.out]
      exact ⟨_, rfl, hown, hnx⟩
end Go.Proofs.Ytdepkpnicfcbiaa
