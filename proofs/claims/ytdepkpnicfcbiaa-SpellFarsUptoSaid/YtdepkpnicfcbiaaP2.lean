/- Letters, plainly: the bytes of a unit are its letter's own. -/
import Derived.Test.YtdepkpnicfcbiaaP1
import Derived.Lib.RuneBytes
namespace Go.Proofs.Ytdepkpnicfcbiaa
open Go.RowKit

def byteU (s : ByteArray) (i : Nat) : UInt8 := s.data.toList.getD i 0
theorem take1 (l : List UInt8) (a : Nat) (h : a < l.length) : (l.drop a).take 1 = [l.getD a 0] := by
  rw [List.drop_eq_getElem_cons h, List.getD_eq_getElem?_getD, List.getElem?_eq_getElem h]; rfl
theorem takeS (l : List UInt8) (a n : Nat) (h : a < l.length) : (l.drop a).take (n + 1) = l.getD a 0 :: (l.drop (a + 1)).take n := by
  rw [List.drop_eq_getElem_cons h, List.getD_eq_getElem?_getD, List.getElem?_eq_getElem h]; rfl
theorem extract_toList (s : ByteArray) (a n : Nat) : (s.extract a (a + n)).data.toList = (s.data.toList.drop a).take n := by
  rw [ByteArray.data_extract, Array.toList_extract, List.extract_eq_take_drop]
  congr 1; omega
theorem byte_of (x : UInt8) (v : Int) (h : (x.toNat : Int) = v) : x = v.toNat.toUInt8 := by
  subst h; simp
/-- the bytes of a unit: of a stray itself; of a letter as it is written -/
theorem unit_text (s : ByteArray) (a : Nat) (ha : a < s.size) :
    (s.extract a (a + (atR s a).2.toNat)).data.toList = if (atR s a).1 < 0 then [byteU s a] else Lib.encodeRune (atR s a).1 := by
  have hr := atR_decI s a ha
  have hend := atR_end s a ha
  have b0 := byteI_bd s a
  rw [extract_toList]
  have hl : s.data.toList.length = s.size := by rw [Array.length_toList]; rfl
  have e0 : ((s.data.toList.getD a 0).toNat : Int) = byteI s a := rfl
  have e1 : ((s.data.toList.getD (a + 1) 0).toNat : Int) = byteI s (a + 1) := rfl
  have e2 : ((s.data.toList.getD (a + 1 + 1) 0).toNat : Int) = byteI s (a + 2) := rfl
  have e3 : ((s.data.toList.getD (a + 1 + 1 + 1) 0).toNat : Int) = byteI s (a + 3) := rfl
  have g0 : byteU s a = s.data.toList.getD a 0 := rfl
  generalize s.data.toList = l at *
  generalize byteI s a = n0 at *
  generalize byteI s (a + 1) = n1 at *
  generalize byteI s (a + 2) = n2 at *
  generalize byteI s (a + 3) = n3 at *
  generalize atR s a = q at *
  generalize s.size = z at *
  rw [g0]
  unfold decI at hr
  dsimp only at hr
  by_cases h1 : n0 < 128
  · simp only [h1, if_true] at hr
    rw [if_neg (by simp only [Prod.mk.injEq]; omega)] at hr
    subst hr
    dsimp only at *
    rw [if_neg (by omega)]
    show (l.drop a).take 1 = _
    rw [take1 _ _ (by omega), Lib.encodeRune, Lib.encodeRuneZ_one (by omega) (by omega)]
    simp only [List.map_cons, List.map_nil, List.cons.injEq, and_true]
    exact byte_of _ _ e0
  have stray : q = (-1, 1) → (l.drop a).take q.2.toNat = if q.1 < 0 then [l.getD a 0] else Lib.encodeRune q.1 := by
    rintro rfl
    show (l.drop a).take 1 = _
    rw [take1 _ _ (by omega)]; rfl
  simp only [h1, if_false] at hr
  by_cases h2 : (192 ≤ n0 ∧ n0 < 224) ∧ 128 ≤ n1 ∧ n1 ≤ 191
  · simp only [h2, and_self, if_true] at hr
    by_cases h : 128 ≤ (n0 - 192) * 64 + n1 - 128
    · simp only [h, if_true] at hr
      rw [if_neg (by simp only [Prod.mk.injEq]; omega)] at hr
      subst hr
      dsimp only at *
      rw [if_neg (by omega)]
      show (l.drop a).take 2 = _
      rw [takeS _ _ _ (by omega), take1 _ _ (by omega), Lib.encodeRune, Lib.encodeRuneZ_two (by omega) (by omega)]
      simp only [List.map_cons, List.map_nil, List.cons.injEq, and_true]
      exact ⟨byte_of _ _ (by omega), byte_of _ _ (by omega)⟩
    · simp only [h, if_false, if_true] at hr; exact stray hr
  simp only [h2, if_false] at hr
  by_cases h3 : (224 ≤ n0 ∧ n0 < 240) ∧ (128 ≤ n1 ∧ n1 ≤ 191) ∧ 128 ≤ n2 ∧ n2 ≤ 191
  · simp only [h3, and_self, if_true] at hr
    by_cases h : 2048 ≤ ((n0 - 224) * 64 + n1 - 128) * 64 + n2 - 128 ∧ isLetterB (((n0 - 224) * 64 + n1 - 128) * 64 + n2 - 128) = true
    · have hh := h.2
      simp only [h, and_self, if_true] at hr
      rw [if_neg (by simp only [Prod.mk.injEq]; omega)] at hr
      subst hr
      dsimp only at *
      unfold isLetterB at hh
      simp only [decide_eq_true_eq] at hh
      rw [if_neg (by omega)]
      show (l.drop a).take 3 = _
      rw [takeS _ _ _ (by omega), takeS _ _ _ (by omega), take1 _ _ (by omega), Lib.encodeRune, Lib.encodeRuneZ_three (by omega)]
      simp only [List.map_cons, List.map_nil, List.cons.injEq, and_true]
      exact ⟨byte_of _ _ (by omega), byte_of _ _ (by omega), byte_of _ _ (by omega)⟩
    · rw [if_neg h] at hr; exact stray hr
  simp only [h3, if_false] at hr
  by_cases h4 : (240 ≤ n0 ∧ n0 < 248) ∧ (128 ≤ n1 ∧ n1 ≤ 191) ∧ (128 ≤ n2 ∧ n2 ≤ 191) ∧ 128 ≤ n3 ∧ n3 ≤ 191
  · simp only [h4, and_self, if_true] at hr
    by_cases h : 65536 ≤ (((n0 - 240) * 64 + n1 - 128) * 64 + n2 - 128) * 64 + n3 - 128 ∧ isLetterB ((((n0 - 240) * 64 + n1 - 128) * 64 + n2 - 128) * 64 + n3 - 128) = true
    · have hh := h.2
      simp only [h, and_self, if_true] at hr
      rw [if_neg (by simp only [Prod.mk.injEq]; omega)] at hr
      subst hr
      dsimp only at *
      unfold isLetterB at hh
      simp only [decide_eq_true_eq] at hh
      rw [if_neg (by omega)]
      show (l.drop a).take 4 = _
      rw [takeS _ _ _ (by omega), takeS _ _ _ (by omega), takeS _ _ _ (by omega), take1 _ _ (by omega), Lib.encodeRune, Lib.encodeRuneZ_four (by omega) (by omega)]
      simp only [List.map_cons, List.map_nil, List.cons.injEq, and_true]
      exact ⟨byte_of _ _ (by omega), byte_of _ _ (by omega), byte_of _ _ (by omega), byte_of _ _ (by omega)⟩
    · rw [if_neg h] at hr; exact stray hr
  simp only [h4, if_false, if_true] at hr
  exact stray hr
/-- a letter's own number is a letter's -/
theorem atR_letter (s : ByteArray) (a : Nat) (h : 0 ≤ (atR s a).1) : isLetterB (atR s a).1 = true := by
  unfold atR at *
  dsimp only at *
  split at h
  · simp at h
  · split at h
    · simp at h
    · split at h
      · simp at h
      · rename_i h1 h2 h3
        rw [if_neg h1, if_neg h2, if_neg h3]
        cases hb : isLetterB (contC s a (leadC (byteI s a)) ((leadN (byteI s a)).toNat - 1)) with
        | true => rfl
        | false => exact absurd (.inr hb) h3
end Go.Proofs.Ytdepkpnicfcbiaa
