/- Letters, plainly: what is written is read; a fold's units are the folds of the units; a fold of a fold is itself. -/
import Derived.Test.YtebmdabdckebhaaA6
import Derived.Test.YtebmdabdckebhaaP3
namespace Go.Proofs.Ytebmdabdckebhaa
open Go.RowKit

def bI (l : List UInt8) (j : Nat) : Int := ((l.getD j 0).toNat : Int)
def decL (l : List UInt8) : Int × Int := decI (bI l 0) (bI l 1) (bI l 2) (bI l 3)
def atL (l : List UInt8) : Int × Int := (if decL l = (65533, 1) then -1 else (decL l).1, (decL l).2)
theorem bI_bd (l : List UInt8) (j : Nat) : 0 ≤ bI l j ∧ bI l j ≤ 255 := by unfold bI; have := (l.getD j 0).toNat_lt; omega
theorem bI_drop (l : List UInt8) (a j : Nat) : bI (l.drop a) j = bI l (a + j) := by
  unfold bI; rw [List.getD_eq_getElem?_getD, List.getElem?_drop, ← List.getD_eq_getElem?_getD]
theorem bI_succ (b : UInt8) (l : List UInt8) (j : Nat) : bI (b :: l) (j + 1) = bI l j := by unfold bI; rfl
theorem atR_atL (s : ByteArray) (a : Nat) (ha : a < s.size) : atR s a = atL (s.data.toList.drop a) := by
  have e : ∀ j, bI (s.data.toList.drop a) j = byteI s (a + j) := fun j => bI_drop _ _ _
  rw [atR_decI s a ha]; unfold atL decL
  rw [e 0, e 1, e 2, e 3]; rfl
/-- units of bytes: letter, length -/
def unitsL : Nat → List UInt8 → List (Int × Int)
  | 0, _ => []
  | _ + 1, [] => []
  | n + 1, b :: l => atL (b :: l) :: unitsL n ((b :: l).drop (atL (b :: l)).2.toNat)
def foldP (l : List UInt8) : List UInt8 := if (atL l).1 < 0 then [l.getD 0 0] else Lib.encodeRune (smallS (atL l).1)
def FL : Nat → List UInt8 → List UInt8
  | 0, _ => []
  | _ + 1, [] => []
  | n + 1, b :: l => foldP (b :: l) ++ FL n ((b :: l).drop (atL (b :: l)).2.toNat)
theorem units_bridge (s : ByteArray) : ∀ n a, (unitsFrom s n a).map (fun u => (u.2.2, u.2.1)) = unitsL n (s.data.toList.drop a) ∧ (unitsFrom s n a).flatMap (foldU s) = FL n (s.data.toList.drop a)
  | 0, a => ⟨rfl, rfl⟩
  | n + 1, a => by
    have hl : s.data.toList.length = s.size := by rw [Array.length_toList]; rfl
    rw [unitsFrom]
    by_cases h : a < s.size
    · obtain ⟨b, r, hbr⟩ : ∃ b r, s.data.toList.drop a = b :: r := by
        cases hd : s.data.toList.drop a with
        | nil => have := congrArg List.length hd; rw [List.length_drop] at this; simp at this; omega
        | cons b r => exact ⟨b, r, rfl⟩
      obtain ⟨i1, i2⟩ := units_bridge s n (a + (atR s a).2.toNat)
      rw [if_pos h, List.map_cons, List.flatMap_cons, i1, i2, hbr]
      have e := atR_atL s a h
      rw [hbr] at e
      have ed : s.data.toList.drop (a + (atR s a).2.toNat) = (b :: r).drop (atL (b :: r)).2.toNat := by rw [← hbr, List.drop_drop, hbr, e]
      refine ⟨?_, ?_⟩
      · rw [unitsL, ed, e]
      · have e2 : foldU s ((a : Int), (atR s a).2, (atR s a).1) = foldP (b :: r) := by
          have e3 : byteU s ((a : Int)).toNat = (b :: r).getD 0 0 := by
            unfold byteU
            rw [Int.toNat_natCast, ← hbr, List.getD_eq_getElem?_getD, List.getD_eq_getElem?_getD, List.getElem?_drop]; rfl
          unfold foldU foldP
          simp only [e, e3]
        rw [FL, ed, e2]
    · have : s.data.toList.drop a = [] := by rw [List.drop_eq_nil_iff]; omega
      rw [if_neg h, this]; exact ⟨rfl, rfl⟩
theorem atL_neg (l : List UInt8) (h : (atL l).1 < 0) : atL l = (-1, 1) := by
  unfold atL at *
  dsimp only at *
  by_cases e : decL l = (65533, 1)
  · rw [if_pos e, e]
  · rw [if_neg e] at h
    exfalso
    have b0 := bI_bd l 0; have b1 := bI_bd l 1
    unfold decL decI at h
    dsimp only at h
    (repeat' split at h) <;> dsimp only at h <;> omega
theorem atL_len (l : List UInt8) : 1 ≤ (atL l).2 := by
  unfold atL decL decI
  dsimp only
  (repeat' split) <;> dsimp only <;> omega
theorem atL_head (l : List UInt8) (h : 0 ≤ (atL l).1) : bI l 0 < 128 ∨ 192 ≤ bI l 0 := by
  by_cases h1 : bI l 0 < 128 ∨ 192 ≤ bI l 0
  · exact h1
  · exfalso
    have : decL l = (65533, 1) := by
      unfold decL decI; dsimp only
      rw [if_neg (by omega), if_neg (by omega), if_neg (by omega), if_neg (by omega)]
    unfold atL at h
    rw [if_pos this] at h; simp at h
theorem bI_cons (x : Int) (l : List UInt8) (h : 0 ≤ x ∧ x < 256) : bI (x.toNat.toUInt8 :: l) 0 = x := by
  unfold bI; simp; omega
/-- what is written is read -/
theorem atL_encode (c : Int) (h : isLetterB c = true) (r : List UInt8) : atL (Lib.encodeRune c ++ r) = (c, ((Lib.encodeRune c).length : Int)) := by
  have hb := h; unfold isLetterB at hb; simp only [decide_eq_true_eq] at hb
  have key : decL (Lib.encodeRune c ++ r) = (c, ((Lib.encodeRune c).length : Int)) := by
    unfold Lib.encodeRune
    by_cases h1 : c ≤ 127
    · rw [Lib.encodeRuneZ_one (by omega) h1]
      simp only [List.map_cons, List.map_nil, List.cons_append, List.nil_append, List.length_cons, List.length_nil]
      unfold decL
      rw [bI_cons c _ (by omega)]
      unfold decI; dsimp only; rw [if_pos (by omega)]; rfl
    by_cases h2 : c ≤ 2047
    · rw [Lib.encodeRuneZ_two (by omega) h2]
      simp only [List.map_cons, List.map_nil, List.cons_append, List.nil_append, List.length_cons, List.length_nil]
      unfold decL
      rw [bI_succ _ _ 0, bI_cons _ _ (by omega), bI_cons _ _ (by omega)]
      unfold decI; dsimp only; rw [if_neg (by omega), if_pos (by omega), if_pos (by omega)]
      simp only [Prod.mk.injEq]; omega
    by_cases h3 : c ≤ 65535
    · rw [Lib.encodeRuneZ_three (by omega)]
      simp only [List.map_cons, List.map_nil, List.cons_append, List.nil_append, List.length_cons, List.length_nil]
      unfold decL
      rw [bI_succ _ _ 0, bI_succ _ _ 1, bI_succ _ _ 0, bI_cons _ _ (by omega), bI_cons _ _ (by omega), bI_cons _ _ (by omega)]
      have e : ((224 + c / 4096 - 224) * 64 + (128 + c / 64 % 64) - 128) * 64 + (128 + c % 64) - 128 = c := by omega
      unfold decI; dsimp only; rw [e, if_neg (by omega), if_neg (by omega), if_pos (by omega), if_pos ⟨by omega, h⟩]; rfl
    · rw [Lib.encodeRuneZ_four (by omega) (by omega)]
      simp only [List.map_cons, List.map_nil, List.cons_append, List.nil_append, List.length_cons, List.length_nil]
      unfold decL
      rw [bI_succ _ _ 0, bI_succ _ _ 1, bI_succ _ _ 0, bI_succ _ _ 2, bI_succ _ _ 1, bI_succ _ _ 0, bI_cons _ _ (by omega), bI_cons _ _ (by omega), bI_cons _ _ (by omega), bI_cons _ _ (by omega)]
      have e : (((240 + c / 262144 - 240) * 64 + (128 + c / 4096 % 64) - 128) * 64 + (128 + c / 64 % 64) - 128) * 64 + (128 + c % 64) - 128 = c := by omega
      unfold decI; dsimp only; rw [e, if_neg (by omega), if_neg (by omega), if_neg (by omega), if_pos (by omega), if_pos ⟨by omega, h⟩]; rfl
  unfold atL
  rw [key, if_neg]
  simp only [Prod.mk.injEq, not_and]
  rintro rfl
  decide
def isC (b : UInt8) : Bool := decide (128 ≤ b.toNat ∧ b.toNat ≤ 191)
def run (l : List UInt8) : List UInt8 := l.takeWhile isC
theorem run_step (l l' : List UInt8) (h : run l = run l') : ((128 ≤ bI l 0 ∧ bI l 0 ≤ 191) ↔ (128 ≤ bI l' 0 ∧ bI l' 0 ≤ 191)) ∧ ((128 ≤ bI l 0 ∧ bI l 0 ≤ 191) → bI l 0 = bI l' 0 ∧ run (l.drop 1) = run (l'.drop 1)) := by
  unfold run at *
  match l, l' with
  | [], [] => simp
  | [], y :: t' =>
    by_cases hy : isC y = true
    · rw [List.takeWhile_cons_of_pos hy] at h; simp at h
    · unfold isC at hy; simp only [decide_eq_true_eq] at hy
      unfold bI; simp; omega
  | x :: t, [] =>
    by_cases hx : isC x = true
    · rw [List.takeWhile_cons_of_pos hx] at h; simp at h
    · unfold isC at hx; simp only [decide_eq_true_eq] at hx
      unfold bI; simp; omega
  | x :: t, y :: t' =>
    by_cases hx : isC x = true
    · by_cases hy : isC y = true
      · rw [List.takeWhile_cons_of_pos hx, List.takeWhile_cons_of_pos hy] at h
        simp only [List.cons.injEq] at h
        obtain ⟨rfl, h⟩ := h
        exact ⟨Iff.rfl, fun _ => ⟨rfl, h⟩⟩
      · rw [List.takeWhile_cons_of_pos hx, List.takeWhile_cons_of_neg hy] at h; simp at h
    · by_cases hy : isC y = true
      · rw [List.takeWhile_cons_of_neg hx, List.takeWhile_cons_of_pos hy] at h; simp at h
      · unfold isC at hx hy; simp only [decide_eq_true_eq] at hx hy
        unfold bI; simp only [List.getD_cons_zero]
        refine ⟨by omega, fun hh => by omega⟩
/-- the decoder asks no more of what follows than its run of continuing bytes -/
theorem atL_run (b : UInt8) (l l' : List UInt8) (h : run l = run l') : atL (b :: l) = atL (b :: l') := by
  have key : decL (b :: l) = decL (b :: l') := by
    obtain ⟨a1, a2⟩ := run_step l l' h
    have z0 : bI (b :: l) 0 = bI (b :: l') 0 := rfl
    unfold decL
    rw [bI_succ b l 0, bI_succ b l 1, bI_succ b l 2, bI_succ b l' 0, bI_succ b l' 1, bI_succ b l' 2, z0]
    generalize bI (b :: l') 0 = n0
    unfold decI
    dsimp only
    by_cases k1 : 128 ≤ bI l 0 ∧ bI l 0 ≤ 191
    · obtain ⟨e1, h2⟩ := a2 k1
      obtain ⟨b1, b2⟩ := run_step _ _ h2
      rw [bI_drop, bI_drop] at b1 b2
      rw [← e1]
      by_cases k2 : 128 ≤ bI l 1 ∧ bI l 1 ≤ 191
      · obtain ⟨e2, h3⟩ := b2 k2
        obtain ⟨d1, d2⟩ := run_step _ _ h3
        rw [bI_drop, bI_drop, bI_drop, bI_drop] at d1 d2
        have e2' : bI l 1 = bI l' 1 := e2
        rw [← e2']
        by_cases k3 : 128 ≤ bI l 2 ∧ bI l 2 ≤ 191
        · obtain ⟨e3, _⟩ := d2 k3
          have e3' : bI l 2 = bI l' 2 := e3
          rw [← e3']
        · have k3' : ¬ (128 ≤ bI l' 2 ∧ bI l' 2 ≤ 191) := fun hh => k3 (d1.2 hh)
          simp only [k3, k3', and_false, if_false]
      · have k2' : ¬ (128 ≤ bI l' 1 ∧ bI l' 1 ≤ 191) := fun hh => k2 (b1.2 hh)
        simp only [k2, k2', and_false, false_and, if_false]
    · have k1' : ¬ (128 ≤ bI l' 0 ∧ bI l' 0 ≤ 191) := fun hh => k1 (a1.2 hh)
      simp only [k1, k1', and_false, false_and, if_false]
  unfold atL; rw [key]
end Go.Proofs.Ytebmdabdckebhaa
