/- Letters, plainly: what the reference's LetterAt and Units answer, as functions on bytes; no program in sight. -/
import Derived.Test.YtdepkpnicfcbiaaRow3
namespace Go.Proofs.Ytdepkpnicfcbiaa
open Go.RowKit

def leadN (b : Int) : Int := if b < 128 then 1 else if 192 ≤ b ∧ b < 224 then 2 else if 224 ≤ b ∧ b < 240 then 3 else if 240 ≤ b ∧ b < 248 then 4 else 0
def leadC (b : Int) : Int := if b < 128 then b else if 192 ≤ b ∧ b < 224 then b - 192 else if 224 ≤ b ∧ b < 240 then b - 224 else if 240 ≤ b ∧ b < 248 then b - 240 else 0
def leadL (b : Int) : Int := if b < 128 then 0 else if 192 ≤ b ∧ b < 224 then 128 else if 224 ≤ b ∧ b < 240 then 2048 else if 240 ≤ b ∧ b < 248 then 65536 else 0

def isLetterB (c : Int) : Bool := decide ((0 ≤ c ∧ c ≤ 1114111) ∧ ¬ (55296 ≤ c ∧ c ≤ 57343))
/-- byte j behind place a, as a number; 0 where there is none -/
def byteI (s : ByteArray) (i : Nat) : Int := ((s.data.toList.getD i 0).toNat : Int)
theorem byteI_eq (s : ByteArray) (i : Nat) (h : i < s.size) : ((s[i]'h).toNat : Int) = byteI s i := by
  unfold byteI
  have h' : i < s.data.toList.length := by rw [Array.length_toList]; exact h
  rw [List.getD_eq_getElem?_getD, List.getElem?_eq_getElem h']
  simp only [Option.getD_some, Array.getElem_toList]
  rfl
theorem byteI_bd (s : ByteArray) (i : Nat) : 0 ≤ byteI s i ∧ byteI s i ≤ 255 := by
  unfold byteI
  have := (s.data.toList.getD i 0).toNat_lt
  omega
/-- what the bytes behind the first one bring, j of them -/
def contC (s : ByteArray) (a : Nat) (c0 : Int) : Nat → Int
  | 0 => c0
  | j + 1 => contC s a c0 j * 64 + byteI s (a + (1 + j)) - 128
def contOk (s : ByteArray) (a : Nat) : Nat → Bool
  | 0 => true
  | j + 1 => contOk s a j && decide (128 ≤ byteI s (a + (1 + j)) ∧ byteI s (a + (1 + j)) ≤ 191)
def bigC (j : Nat) : Int := match j with | 0 => 127 | 1 => 10000 | 2 => 1000000 | _ => 100000000
theorem contC_bd (s : ByteArray) (a : Nat) (c0 : Int) (h0 : 0 ≤ c0) (h1 : c0 ≤ 127) : ∀ j, contOk s a j = true → j ≤ 3 → 0 ≤ contC s a c0 j ∧ contC s a c0 j ≤ bigC j
  | 0, _, _ => ⟨h0, h1⟩
  | j + 1, h, hj => by
    simp only [contOk, Bool.and_eq_true, decide_eq_true_eq] at h
    have ih := contC_bd s a c0 h0 h1 j h.1 (by omega)
    simp only [contC]
    have : j = 0 ∨ j = 1 ∨ j = 2 := by omega
    rcases this with rfl | rfl | rfl <;> simp only [bigC] at ih ⊢ <;> omega
/-- the letter at a place as the reference has it: letter, length -/
def atR (s : ByteArray) (a : Nat) : Int × Int :=
  let b := byteI s a
  if leadN b = 0 ∨ (s.size : Int) < a + leadN b then (-1, 1)
  else if contOk s a ((leadN b).toNat - 1) = false then (-1, 1)
  else if contC s a (leadC b) ((leadN b).toNat - 1) < leadL b ∨ isLetterB (contC s a (leadC b) ((leadN b).toNat - 1)) = false then (-1, 1)
  else (contC s a (leadC b) ((leadN b).toNat - 1), leadN b)
theorem leadN_bd (b : Int) : 0 ≤ leadN b ∧ leadN b ≤ 4 := by unfold leadN; (repeat' split) <;> omega
theorem leadC_bd (b : Int) (h : 0 ≤ b) : 0 ≤ leadC b ∧ leadC b ≤ 127 := by unfold leadC; (repeat' split) <;> omega

theorem byteI_conv (s : ByteArray) (i : Nat) (h : i < s.size) : wrap64 ((s[i]'h).toNat : Int) = byteI s i := by
  rw [byteI_eq]; have := byteI_bd s i; exact IntWalk.wrap64_in _ (by omega)

theorem atR_bad1 {s : ByteArray} {a : Nat} (h : leadN (byteI s a) = 0 ∨ (s.size : Int) < a + leadN (byteI s a)) : atR s a = (-1, 1) := by
  unfold atR; simp only [if_pos h]
theorem atR_bad2 {s : ByteArray} {a : Nat} (h : contOk s a ((leadN (byteI s a)).toNat - 1) = false) : atR s a = (-1, 1) := by
  unfold atR; simp only [h]; split <;> simp
theorem atR_bad3 {s : ByteArray} {a : Nat} (h : contC s a (leadC (byteI s a)) ((leadN (byteI s a)).toNat - 1) < leadL (byteI s a) ∨ isLetterB (contC s a (leadC (byteI s a)) ((leadN (byteI s a)).toNat - 1)) = false) : atR s a = (-1, 1) := by
  unfold atR; simp only [if_pos h]; split <;> (try split) <;> rfl
theorem atR_good {s : ByteArray} {a : Nat} (h0 : ¬ (leadN (byteI s a) = 0 ∨ (s.size : Int) < a + leadN (byteI s a))) (h1 : contOk s a ((leadN (byteI s a)).toNat - 1) = true)
    (h : ¬ (contC s a (leadC (byteI s a)) ((leadN (byteI s a)).toNat - 1) < leadL (byteI s a) ∨ isLetterB (contC s a (leadC (byteI s a)) ((leadN (byteI s a)).toNat - 1)) = false)) :
    atR s a = (contC s a (leadC (byteI s a)) ((leadN (byteI s a)).toNat - 1), leadN (byteI s a)) := by
  unfold atR; simp only [if_neg h0, h1, if_neg h]; simp

theorem contOk_bad {s : ByteArray} {a j n : Nat} (hj : j + 1 ≤ n) (h : contOk s a (j + 1) = false) : contOk s a n = false := by
  induction n with
  | zero => omega
  | succ n ih =>
    by_cases e : j + 1 = n + 1
    · rw [← e]; exact h
    · rw [contOk, ih (by omega)]; rfl

/-- the units of a text from a place on, as the reference has them: at, length, letter; fuel: how many at the most -/
def unitsFrom (s : ByteArray) : Nat → Nat → List (Int × Int × Int)
  | 0, _ => []
  | n + 1, a => if a < s.size then ((a : Int), (atR s a).2, (atR s a).1) :: unitsFrom s n (a + (atR s a).2.toNat) else []
theorem atR_2 (s : ByteArray) (a : Nat) : 1 ≤ (atR s a).2 ∧ (atR s a).2 ≤ 4 := by
  have := leadN_bd (byteI s a)
  unfold atR; dsimp only
  split
  · simp
  · split
    · simp
    · split
      · simp
      · rename_i h _ _; simp at h ⊢; omega
theorem atR_1 (s : ByteArray) (a : Nat) : -1 ≤ (atR s a).1 ∧ (atR s a).1 ≤ 1114111 := by
  unfold atR; dsimp only
  split
  · simp
  · split
    · simp
    · split
      · simp
      · rename_i h _ h3; simp [isLetterB] at h3 ⊢; omega
theorem atR_end (s : ByteArray) (a : Nat) (ha : a < s.size) : (a : Int) + (atR s a).2 ≤ s.size := by
  unfold atR; dsimp only
  split
  · simp; omega
  · split
    · simp; omega
    · split
      · simp; omega
      · rename_i h _ _; simp at h ⊢; omega


theorem get_getD (s : ByteArray) (i : Nat) : s.get! i = s.data.toList.getD i 0 := by
  show s.data.get!Internal i = _
  rw [Array.get!Internal_eq_getElem!]
  rw [List.getD_eq_getElem?_getD, Array.getElem?_toList, getElem!_def]
  cases s.data[i]? <;> rfl
theorem contB (s : ByteArray) (i : Nat) : (decide (i < s.size) && (s.get! i).toNat / 64 == 2) = decide (128 ≤ byteI s i ∧ byteI s i ≤ 191) := by
  unfold byteI
  rw [get_getD]
  by_cases h : i < s.size
  · rw [Bool.eq_iff_iff]; simp [h]; omega
  · have : s.data.toList.getD i 0 = 0 := by
      rw [List.getD_eq_getElem?_getD, List.getElem?_eq_none]; rfl
      rw [Array.length_toList]; exact Nat.le_of_not_lt h
    rw [this]; simp [h]
theorem getI (s : ByteArray) (i : Nat) : ((s.get! i).toNat : Int) = byteI s i := by rw [get_getD]; rfl
theorem byteI_none (s : ByteArray) (i : Nat) (h : s.size ≤ i) : byteI s i = 0 := by
  unfold byteI
  rw [List.getD_eq_getElem?_getD, List.getElem?_eq_none]; rfl
  rw [Array.length_toList]; exact h
/-- the model's decoder on numbers: the byte, the three behind it -/
def decI (n0 n1 n2 n3 : Int) : Int × Int :=
  let k1 := 128 ≤ n1 ∧ n1 ≤ 191
  let k2 := 128 ≤ n2 ∧ n2 ≤ 191
  let k3 := 128 ≤ n3 ∧ n3 ≤ 191
  if n0 < 128 then (n0, 1)
  else if (192 ≤ n0 ∧ n0 < 224) ∧ k1 then
    if 128 ≤ (n0 - 192) * 64 + n1 - 128 then ((n0 - 192) * 64 + n1 - 128, 2) else (65533, 1)
  else if (224 ≤ n0 ∧ n0 < 240) ∧ k1 ∧ k2 then
    if 2048 ≤ ((n0 - 224) * 64 + n1 - 128) * 64 + n2 - 128 ∧ isLetterB (((n0 - 224) * 64 + n1 - 128) * 64 + n2 - 128) = true then (((n0 - 224) * 64 + n1 - 128) * 64 + n2 - 128, 3) else (65533, 1)
  else if (240 ≤ n0 ∧ n0 < 248) ∧ k1 ∧ k2 ∧ k3 then
    if 65536 ≤ (((n0 - 240) * 64 + n1 - 128) * 64 + n2 - 128) * 64 + n3 - 128 ∧ isLetterB ((((n0 - 240) * 64 + n1 - 128) * 64 + n2 - 128) * 64 + n3 - 128) = true then
      ((((n0 - 240) * 64 + n1 - 128) * 64 + n2 - 128) * 64 + n3 - 128, 4) else (65533, 1)
  else (65533, 1)
theorem valid_letter (c : Int) : Utf8.valid c = isLetterB c := by
  rw [Bool.eq_iff_iff]; simp [Utf8.valid, isLetterB]; omega
def decN (n0 n1 n2 n3 : Nat) (k1 k2 k3 : Bool) : Nat × Nat :=
  if n0 < 0x80 then (n0, 1)
  else if n0 / 32 == 6 && k1 then
    if (n0 % 32) * 64 + n1 % 64 ≥ 0x80 then ((n0 % 32) * 64 + n1 % 64, 2) else (65533, 1)
  else if n0 / 16 == 14 && k1 && k2 then
    if (decide ((n0 % 16) * 4096 + (n1 % 64) * 64 + n2 % 64 ≥ 0x800) && Utf8.valid ((n0 % 16) * 4096 + (n1 % 64) * 64 + n2 % 64 : Nat)) = true then ((n0 % 16) * 4096 + (n1 % 64) * 64 + n2 % 64, 3) else (65533, 1)
  else if n0 / 8 == 30 && k1 && k2 && k3 then
    if (decide ((n0 % 8) * 262144 + (n1 % 64) * 4096 + (n2 % 64) * 64 + n3 % 64 ≥ 0x10000) && Utf8.valid ((n0 % 8) * 262144 + (n1 % 64) * 4096 + (n2 % 64) * 64 + n3 % 64 : Nat)) = true then
      ((n0 % 8) * 262144 + (n1 % 64) * 4096 + (n2 % 64) * 64 + n3 % 64, 4) else (65533, 1)
  else (65533, 1)
theorem decode_decN (s : ByteArray) (a : Nat) : Utf8.decode s a = decN (s.get! a).toNat (s.get! (a + 1)).toNat (s.get! (a + 2)).toNat (s.get! (a + 3)).toNat
    (decide (a + 1 < s.size) && (s.get! (a + 1)).toNat / 64 == 2) (decide (a + 2 < s.size) && (s.get! (a + 2)).toNat / 64 == 2) (decide (a + 3 < s.size) && (s.get! (a + 3)).toNat / 64 == 2) := rfl
theorem decN_decI (n0 n1 n2 n3 : Nat) (l0 : n0 ≤ 255) (l1 : n1 ≤ 255) (l2 : n2 ≤ 255) (l3 : n3 ≤ 255) :
    (((decN n0 n1 n2 n3 (decide (128 ≤ (n1 : Int) ∧ (n1 : Int) ≤ 191)) (decide (128 ≤ (n2 : Int) ∧ (n2 : Int) ≤ 191)) (decide (128 ≤ (n3 : Int) ∧ (n3 : Int) ≤ 191))).1 : Int),
     ((decN n0 n1 n2 n3 (decide (128 ≤ (n1 : Int) ∧ (n1 : Int) ≤ 191)) (decide (128 ≤ (n2 : Int) ∧ (n2 : Int) ≤ 191)) (decide (128 ≤ (n3 : Int) ∧ (n3 : Int) ≤ 191))).2 : Int)) = decI n0 n1 n2 n3 := by
  have v := valid_letter
  by_cases h1 : n0 < 128
  · have i1 : (n0 : Int) < 128 := by omega
    simp only [decN, decI, h1, i1, if_true]; rfl
  have i1 : ¬ (n0 : Int) < 128 := by omega
  rcases (by omega : (192 ≤ n0 ∧ n0 < 224) ∨ (224 ≤ n0 ∧ n0 < 240) ∨ (240 ≤ n0 ∧ n0 < 248) ∨ ¬ (192 ≤ n0 ∧ n0 < 248)) with r | r | r | r
  · have f2 : (n0 / 32 = 6) := by omega
    have i2 : (192 ≤ (n0 : Int) ∧ (n0 : Int) < 224) := by omega
    have f3 : ¬ (n0 / 16 = 14) := by omega
    have i3 : ¬ (224 ≤ (n0 : Int) ∧ (n0 : Int) < 240) := by omega
    have f4 : ¬ (n0 / 8 = 30) := by omega
    have i4 : ¬ (240 ≤ (n0 : Int) ∧ (n0 : Int) < 248) := by omega
    by_cases k1 : 128 ≤ (n1 : Int) ∧ (n1 : Int) ≤ 191
    · simp only [decN, decI, h1, i1, f2, i2, f3, i3, f4, i4, k1, v, beq_iff_eq, Bool.and_eq_true, decide_eq_true_eq, if_true, if_false, true_and, and_true, false_and, and_self, ge_iff_le]
      by_cases h : 128 ≤ n0 % 32 * 64 + n1 % 64
      · rw [if_pos h, if_pos (by omega)]; simp only [Prod.mk.injEq]; omega
      · rw [if_neg h, if_neg (by omega)]; rfl
    · simp only [decN, decI, h1, i1, f2, i2, f3, i3, f4, i4, k1, v, beq_iff_eq, Bool.and_eq_true, decide_eq_true_eq, if_false, false_and, and_false, and_self, ge_iff_le]; rfl
  · have f2 : ¬ (n0 / 32 = 6) := by omega
    have i2 : ¬ (192 ≤ (n0 : Int) ∧ (n0 : Int) < 224) := by omega
    have f3 : (n0 / 16 = 14) := by omega
    have i3 : (224 ≤ (n0 : Int) ∧ (n0 : Int) < 240) := by omega
    have f4 : ¬ (n0 / 8 = 30) := by omega
    have i4 : ¬ (240 ≤ (n0 : Int) ∧ (n0 : Int) < 248) := by omega
    by_cases k1 : 128 ≤ (n1 : Int) ∧ (n1 : Int) ≤ 191
    · by_cases k2 : 128 ≤ (n2 : Int) ∧ (n2 : Int) ≤ 191
      · simp only [decN, decI, h1, i1, f2, i2, f3, i3, f4, i4, k1, k2, v, beq_iff_eq, Bool.and_eq_true, decide_eq_true_eq, if_true, if_false, true_and, and_true, false_and, and_self, ge_iff_le]
        have e : ((n0 % 16 * 4096 + n1 % 64 * 64 + n2 % 64 : Nat) : Int) = ((↑n0 - 224) * 64 + ↑n1 - 128) * 64 + ↑n2 - 128 := by omega
        rw [← e]
        by_cases h : 2048 ≤ n0 % 16 * 4096 + n1 % 64 * 64 + n2 % 64 ∧ isLetterB ((n0 % 16 * 4096 + n1 % 64 * 64 + n2 % 64 : Nat) : Int) = true
        · rw [if_pos h, if_pos ⟨by omega, h.2⟩]; rfl
        · rw [if_neg h, if_neg (fun hh => h ⟨by omega, hh.2⟩)]; rfl
      · simp only [decN, decI, h1, i1, f2, i2, f3, i3, f4, i4, k1, k2, v, beq_iff_eq, Bool.and_eq_true, decide_eq_true_eq, if_false, and_true, false_and, and_false, and_self, ge_iff_le]; rfl
    · simp only [decN, decI, h1, i1, f2, i2, f3, i3, f4, i4, k1, v, beq_iff_eq, Bool.and_eq_true, decide_eq_true_eq, if_false, false_and, and_false, and_self, ge_iff_le]; rfl
  · have f2 : ¬ (n0 / 32 = 6) := by omega
    have i2 : ¬ (192 ≤ (n0 : Int) ∧ (n0 : Int) < 224) := by omega
    have f3 : ¬ (n0 / 16 = 14) := by omega
    have i3 : ¬ (224 ≤ (n0 : Int) ∧ (n0 : Int) < 240) := by omega
    have f4 : (n0 / 8 = 30) := by omega
    have i4 : (240 ≤ (n0 : Int) ∧ (n0 : Int) < 248) := by omega
    by_cases k1 : 128 ≤ (n1 : Int) ∧ (n1 : Int) ≤ 191
    · by_cases k2 : 128 ≤ (n2 : Int) ∧ (n2 : Int) ≤ 191
      · by_cases k3 : 128 ≤ (n3 : Int) ∧ (n3 : Int) ≤ 191
        · simp only [decN, decI, h1, i1, f2, i2, f3, i3, f4, i4, k1, k2, k3, v, beq_iff_eq, Bool.and_eq_true, decide_eq_true_eq, if_true, if_false, and_true, and_self, ge_iff_le]
          have e : ((n0 % 8 * 262144 + n1 % 64 * 4096 + n2 % 64 * 64 + n3 % 64 : Nat) : Int) = (((↑n0 - 240) * 64 + ↑n1 - 128) * 64 + ↑n2 - 128) * 64 + ↑n3 - 128 := by omega
          rw [← e]
          by_cases h : 65536 ≤ n0 % 8 * 262144 + n1 % 64 * 4096 + n2 % 64 * 64 + n3 % 64 ∧ isLetterB ((n0 % 8 * 262144 + n1 % 64 * 4096 + n2 % 64 * 64 + n3 % 64 : Nat) : Int) = true
          · rw [if_pos h, if_pos ⟨by omega, h.2⟩]; rfl
          · rw [if_neg h, if_neg (fun hh => h ⟨by omega, hh.2⟩)]; rfl
        · simp only [decN, decI, h1, i1, f2, i2, f3, i3, f4, i4, k1, k2, k3, v, beq_iff_eq, Bool.and_eq_true, decide_eq_true_eq, if_false, and_true, and_false, and_self, ge_iff_le]; rfl
      · simp only [decN, decI, h1, i1, f2, i2, f3, i3, f4, i4, k1, k2, v, beq_iff_eq, Bool.and_eq_true, decide_eq_true_eq, if_false, and_true, false_and, and_false, and_self, ge_iff_le]; rfl
    · simp only [decN, decI, h1, i1, f2, i2, f3, i3, f4, i4, k1, v, beq_iff_eq, Bool.and_eq_true, decide_eq_true_eq, if_false, false_and, and_false, and_self, ge_iff_le]; rfl
  · have f2 : ¬ (n0 / 32 = 6) := by omega
    have i2 : ¬ (192 ≤ (n0 : Int) ∧ (n0 : Int) < 224) := by omega
    have f3 : ¬ (n0 / 16 = 14) := by omega
    have i3 : ¬ (224 ≤ (n0 : Int) ∧ (n0 : Int) < 240) := by omega
    have f4 : ¬ (n0 / 8 = 30) := by omega
    have i4 : ¬ (240 ≤ (n0 : Int) ∧ (n0 : Int) < 248) := by omega
    simp only [decN, decI, h1, i1, f2, i2, f3, i3, f4, i4, v, beq_iff_eq, Bool.and_eq_true, decide_eq_true_eq, if_false, false_and, ge_iff_le]; rfl
theorem decode_decI (s : ByteArray) (a : Nat) :
    (((Utf8.decode s a).1 : Int), ((Utf8.decode s a).2 : Int)) = decI (byteI s a) (byteI s (a + 1)) (byteI s (a + 2)) (byteI s (a + 3)) := by
  rw [decode_decN, contB, contB, contB]
  rw [← getI s a, ← getI s (a + 1), ← getI s (a + 2), ← getI s (a + 3)]
  have l0 := (s.get! a).toNat_lt; have l1 := (s.get! (a + 1)).toNat_lt; have l2 := (s.get! (a + 2)).toNat_lt; have l3 := (s.get! (a + 3)).toNat_lt
  exact decN_decI _ _ _ _ (by omega) (by omega) (by omega) (by omega)
/-- the reference's letter at a place, by the decoder -/
theorem atR_decI (s : ByteArray) (a : Nat) (ha : a < s.size) :
    atR s a = (if decI (byteI s a) (byteI s (a + 1)) (byteI s (a + 2)) (byteI s (a + 3)) = (65533, 1) then -1 else (decI (byteI s a) (byteI s (a + 1)) (byteI s (a + 2)) (byteI s (a + 3))).1,
      (decI (byteI s a) (byteI s (a + 1)) (byteI s (a + 2)) (byteI s (a + 3))).2) := by
  have z1 := byteI_none s (a + 1); have z2 := byteI_none s (a + 2); have z3 := byteI_none s (a + 3)
  have b0 := byteI_bd s a
  have o1 : contOk s a 1 = decide (128 ≤ byteI s (a + 1) ∧ byteI s (a + 1) ≤ 191) := by simp only [contOk, Bool.true_and, Nat.add_zero]
  have o2 : contOk s a 2 = (contOk s a 1 && decide (128 ≤ byteI s (a + 2) ∧ byteI s (a + 2) ≤ 191)) := rfl
  have o3 : contOk s a 3 = (contOk s a 2 && decide (128 ≤ byteI s (a + 3) ∧ byteI s (a + 3) ≤ 191)) := rfl
  have q1 : contC s a (leadC (byteI s a)) 1 = leadC (byteI s a) * 64 + byteI s (a + 1) - 128 := rfl
  have q2 : contC s a (leadC (byteI s a)) 2 = contC s a (leadC (byteI s a)) 1 * 64 + byteI s (a + 2) - 128 := rfl
  have q3 : contC s a (leadC (byteI s a)) 3 = contC s a (leadC (byteI s a)) 2 * 64 + byteI s (a + 3) - 128 := rfl
  rw [q2, q1] at q3; rw [q1] at q2
  rw [o2, o1] at o3; rw [o1] at o2
  by_cases i1 : byteI s a < 128
  · have hn : leadN (byteI s a) = 1 := by unfold leadN; rw [if_pos i1]
    have hc : leadC (byteI s a) = byteI s a := by unfold leadC; rw [if_pos i1]
    have hl : leadL (byteI s a) = 0 := by unfold leadL; rw [if_pos i1]
    have hi : isLetterB (byteI s a) = true := by unfold isLetterB; simp; omega
    have hd : decI (byteI s a) (byteI s (a + 1)) (byteI s (a + 2)) (byteI s (a + 3)) = (byteI s a, 1) := by unfold decI; simp only [i1, if_true]
    rw [hd, if_neg (by simp only [Prod.mk.injEq, not_and]; omega)]
    have g := atR_good (s := s) (a := a) (by rw [hn]; omega) (by rw [hn]; rfl) (by rw [hn, hl]; show ¬ (leadC (byteI s a) < 0 ∨ isLetterB (leadC (byteI s a)) = false); rw [hc, hi]; simp; omega)
    rw [g, hn]; show (leadC (byteI s a), (1 : Int)) = _; rw [hc]
  rcases (by omega : (192 ≤ byteI s a ∧ byteI s a < 224) ∨ (224 ≤ byteI s a ∧ byteI s a < 240) ∨ (240 ≤ byteI s a ∧ byteI s a < 248) ∨ ¬ (192 ≤ byteI s a ∧ byteI s a < 248)) with r | r | r | r
  · have i2 : (192 ≤ byteI s a ∧ byteI s a < 224) := by omega
    have i3 : ¬ (224 ≤ byteI s a ∧ byteI s a < 240) := by omega
    have i4 : ¬ (240 ≤ byteI s a ∧ byteI s a < 248) := by omega
    have hn : leadN (byteI s a) = 2 := by unfold leadN; rw [if_neg i1, if_pos i2]
    have hc : leadC (byteI s a) = byteI s a - 192 := by unfold leadC; rw [if_neg i1, if_pos i2]
    have hl : leadL (byteI s a) = 128 := by unfold leadL; rw [if_neg i1, if_pos i2]
    by_cases k : (128 ≤ byteI s (a + 1) ∧ byteI s (a + 1) ≤ 191)
    · have k1 := k
      have hz : a + 2 ≤ s.size := by
        rcases Nat.lt_or_ge (a + 1) s.size with h | h
        · omega
        · have := z1 h; omega
      rw [hc] at q1
      have ok : contOk s a 1 = true := by rw [o1]; simp only [k1, decide_true, and_self]
      by_cases h : 128 ≤ (byteI s a - 192) * 64 + byteI s (a + 1) - 128 ∧ isLetterB ((byteI s a - 192) * 64 + byteI s (a + 1) - 128) = true
      · have hd : decI (byteI s a) (byteI s (a + 1)) (byteI s (a + 2)) (byteI s (a + 3)) = ((byteI s a - 192) * 64 + byteI s (a + 1) - 128, 2) := by simp only [decI, i1, i2, k1, h.1, if_true, if_false, and_self]
        rw [hd, if_neg (by simp only [Prod.mk.injEq, not_and]; omega)]
        have g := atR_good (s := s) (a := a) (by rw [hn]; omega) (by rw [hn]; exact ok) (by rw [hn, hl]; show ¬ (contC s a (leadC (byteI s a)) 1 < 128 ∨ isLetterB (contC s a (leadC (byteI s a)) 1) = false); rw [hc, q1]; simp only [h.2, Bool.true_eq_false, or_false]; omega)
        rw [g, hn]; show (contC s a (leadC (byteI s a)) 1, (2 : Int)) = _; rw [hc, q1]
      · have h2 : ¬ 128 ≤ (byteI s a - 192) * 64 + byteI s (a + 1) - 128 := fun hh => h ⟨hh, by unfold isLetterB; simp; omega⟩
        have hd : decI (byteI s a) (byteI s (a + 1)) (byteI s (a + 2)) (byteI s (a + 3)) = (65533, 1) := by simp only [decI, i1, i2, k1, h2, if_true, if_false, and_self]
        rw [hd, if_pos rfl]
        exact atR_bad3 (by rw [hn, hl]; show contC s a (leadC (byteI s a)) 1 < 128 ∨ isLetterB (contC s a (leadC (byteI s a)) 1) = false; rw [hc, q1]; rcases Int.lt_or_le ((byteI s a - 192) * 64 + byteI s (a + 1) - 128) 128 with g | g
                           · exact .inl g
                           · exact .inr (by rcases hb : isLetterB ((byteI s a - 192) * 64 + byteI s (a + 1) - 128) with _ | _
                                            · rfl
                                            · exact absurd ⟨g, hb⟩ h))
    · have hd : decI (byteI s a) (byteI s (a + 1)) (byteI s (a + 2)) (byteI s (a + 3)) = (65533, 1) := by simp only [decI, i1, i2, i3, i4, k, if_false, and_false, false_and]
      rw [hd, if_pos rfl]
      refine atR_bad2 ?_
      rw [hn]; show contOk s a 1 = false
      rw [o1]
      rw [Bool.eq_false_iff]; intro hh; simp only [decide_eq_true_eq] at hh; exact k hh
  · have i2 : ¬ (192 ≤ byteI s a ∧ byteI s a < 224) := by omega
    have i3 : (224 ≤ byteI s a ∧ byteI s a < 240) := by omega
    have i4 : ¬ (240 ≤ byteI s a ∧ byteI s a < 248) := by omega
    have hn : leadN (byteI s a) = 3 := by unfold leadN; rw [if_neg i1, if_neg i2, if_pos i3]
    have hc : leadC (byteI s a) = byteI s a - 224 := by unfold leadC; rw [if_neg i1, if_neg i2, if_pos i3]
    have hl : leadL (byteI s a) = 2048 := by unfold leadL; rw [if_neg i1, if_neg i2, if_pos i3]
    by_cases k : (128 ≤ byteI s (a + 1) ∧ byteI s (a + 1) ≤ 191) ∧ (128 ≤ byteI s (a + 2) ∧ byteI s (a + 2) ≤ 191)
    · obtain ⟨k1, k2⟩ := k
      have hz : a + 3 ≤ s.size := by
        rcases Nat.lt_or_ge (a + 2) s.size with h | h
        · omega
        · have := z2 h; omega
      rw [hc] at q2
      have ok : contOk s a 2 = true := by rw [o2]; simp only [k1, k2, decide_true, and_self, Bool.and_self]
      by_cases h : 2048 ≤ ((byteI s a - 224) * 64 + byteI s (a + 1) - 128) * 64 + byteI s (a + 2) - 128 ∧ isLetterB (((byteI s a - 224) * 64 + byteI s (a + 1) - 128) * 64 + byteI s (a + 2) - 128) = true
      · have hd : decI (byteI s a) (byteI s (a + 1)) (byteI s (a + 2)) (byteI s (a + 3)) = (((byteI s a - 224) * 64 + byteI s (a + 1) - 128) * 64 + byteI s (a + 2) - 128, 3) := by simp only [decI, i1, i2, i3, i4, k1, k2, h.1, h.2, if_true, if_false, and_self, false_and]
        rw [hd, if_neg (by simp only [Prod.mk.injEq, not_and]; omega)]
        have g := atR_good (s := s) (a := a) (by rw [hn]; omega) (by rw [hn]; exact ok) (by rw [hn, hl]; show ¬ (contC s a (leadC (byteI s a)) 2 < 2048 ∨ isLetterB (contC s a (leadC (byteI s a)) 2) = false); rw [hc, q2]; simp only [h.2, Bool.true_eq_false, or_false]; omega)
        rw [g, hn]; show (contC s a (leadC (byteI s a)) 2, (3 : Int)) = _; rw [hc, q2]
      · have hd : decI (byteI s a) (byteI s (a + 1)) (byteI s (a + 2)) (byteI s (a + 3)) = (65533, 1) := by simp only [decI, i1, i2, i3, i4, k1, k2, if_true, if_false, and_self, false_and]; rw [if_neg h]
        rw [hd, if_pos rfl]
        exact atR_bad3 (by rw [hn, hl]; show contC s a (leadC (byteI s a)) 2 < 2048 ∨ isLetterB (contC s a (leadC (byteI s a)) 2) = false; rw [hc, q2]; rcases Int.lt_or_le (((byteI s a - 224) * 64 + byteI s (a + 1) - 128) * 64 + byteI s (a + 2) - 128) 2048 with g | g
                           · exact .inl g
                           · exact .inr (by rcases hb : isLetterB (((byteI s a - 224) * 64 + byteI s (a + 1) - 128) * 64 + byteI s (a + 2) - 128) with _ | _
                                            · rfl
                                            · exact absurd ⟨g, hb⟩ h))
    · have hd : decI (byteI s a) (byteI s (a + 1)) (byteI s (a + 2)) (byteI s (a + 3)) = (65533, 1) := by simp only [decI, i1, i2, i3, i4, if_false, false_and, true_and]; rw [if_neg k]
      rw [hd, if_pos rfl]
      refine atR_bad2 ?_
      rw [hn]; show contOk s a 2 = false
      rw [o2]
      rw [Bool.eq_false_iff]; intro hh; simp only [Bool.and_eq_true, decide_eq_true_eq] at hh; exact k hh
  · have i2 : ¬ (192 ≤ byteI s a ∧ byteI s a < 224) := by omega
    have i3 : ¬ (224 ≤ byteI s a ∧ byteI s a < 240) := by omega
    have i4 : (240 ≤ byteI s a ∧ byteI s a < 248) := by omega
    have hn : leadN (byteI s a) = 4 := by unfold leadN; rw [if_neg i1, if_neg i2, if_neg i3, if_pos i4]
    have hc : leadC (byteI s a) = byteI s a - 240 := by unfold leadC; rw [if_neg i1, if_neg i2, if_neg i3, if_pos i4]
    have hl : leadL (byteI s a) = 65536 := by unfold leadL; rw [if_neg i1, if_neg i2, if_neg i3, if_pos i4]
    by_cases k : (128 ≤ byteI s (a + 1) ∧ byteI s (a + 1) ≤ 191) ∧ (128 ≤ byteI s (a + 2) ∧ byteI s (a + 2) ≤ 191) ∧ (128 ≤ byteI s (a + 3) ∧ byteI s (a + 3) ≤ 191)
    · obtain ⟨k1, k2, k3⟩ := k
      have hz : a + 4 ≤ s.size := by
        rcases Nat.lt_or_ge (a + 3) s.size with h | h
        · omega
        · have := z3 h; omega
      rw [hc] at q3
      have ok : contOk s a 3 = true := by rw [o3]; simp only [k1, k2, k3, decide_true, and_self, Bool.and_self]
      by_cases h : 65536 ≤ (((byteI s a - 240) * 64 + byteI s (a + 1) - 128) * 64 + byteI s (a + 2) - 128) * 64 + byteI s (a + 3) - 128 ∧ isLetterB ((((byteI s a - 240) * 64 + byteI s (a + 1) - 128) * 64 + byteI s (a + 2) - 128) * 64 + byteI s (a + 3) - 128) = true
      · have hd : decI (byteI s a) (byteI s (a + 1)) (byteI s (a + 2)) (byteI s (a + 3)) = ((((byteI s a - 240) * 64 + byteI s (a + 1) - 128) * 64 + byteI s (a + 2) - 128) * 64 + byteI s (a + 3) - 128, 4) := by simp only [decI, i1, i2, i3, i4, k1, k2, k3, h.1, h.2, if_true, if_false, and_self, false_and]
        rw [hd, if_neg (by simp only [Prod.mk.injEq, not_and]; omega)]
        have g := atR_good (s := s) (a := a) (by rw [hn]; omega) (by rw [hn]; exact ok) (by rw [hn, hl]; show ¬ (contC s a (leadC (byteI s a)) 3 < 65536 ∨ isLetterB (contC s a (leadC (byteI s a)) 3) = false); rw [hc, q3]; simp only [h.2, Bool.true_eq_false, or_false]; omega)
        rw [g, hn]; show (contC s a (leadC (byteI s a)) 3, (4 : Int)) = _; rw [hc, q3]
      · have hd : decI (byteI s a) (byteI s (a + 1)) (byteI s (a + 2)) (byteI s (a + 3)) = (65533, 1) := by simp only [decI, i1, i2, i3, i4, k1, k2, k3, if_true, if_false, and_self, false_and]; rw [if_neg h]
        rw [hd, if_pos rfl]
        exact atR_bad3 (by rw [hn, hl]; show contC s a (leadC (byteI s a)) 3 < 65536 ∨ isLetterB (contC s a (leadC (byteI s a)) 3) = false; rw [hc, q3]; rcases Int.lt_or_le ((((byteI s a - 240) * 64 + byteI s (a + 1) - 128) * 64 + byteI s (a + 2) - 128) * 64 + byteI s (a + 3) - 128) 65536 with g | g
                           · exact .inl g
                           · exact .inr (by rcases hb : isLetterB ((((byteI s a - 240) * 64 + byteI s (a + 1) - 128) * 64 + byteI s (a + 2) - 128) * 64 + byteI s (a + 3) - 128) with _ | _
                                            · rfl
                                            · exact absurd ⟨g, hb⟩ h))
    · have hd : decI (byteI s a) (byteI s (a + 1)) (byteI s (a + 2)) (byteI s (a + 3)) = (65533, 1) := by simp only [decI, i1, i2, i3, i4, if_false, false_and, true_and]; rw [if_neg k]
      rw [hd, if_pos rfl]
      refine atR_bad2 ?_
      rw [hn]; show contOk s a 3 = false
      rw [o3]
      rw [Bool.eq_false_iff]; intro hh; simp only [Bool.and_eq_true, decide_eq_true_eq] at hh; exact k ⟨hh.1.1, hh.1.2, hh.2⟩
  · have i2 : ¬ (192 ≤ byteI s a ∧ byteI s a < 224) := by omega
    have i3 : ¬ (224 ≤ byteI s a ∧ byteI s a < 240) := by omega
    have i4 : ¬ (240 ≤ byteI s a ∧ byteI s a < 248) := by omega
    have hn : leadN (byteI s a) = 0 := by unfold leadN; rw [if_neg i1, if_neg i2, if_neg i3, if_neg i4]
    have hd : decI (byteI s a) (byteI s (a + 1)) (byteI s (a + 2)) (byteI s (a + 3)) = (65533, 1) := by simp only [decI, i1, i2, i3, i4, if_false, false_and]
    rw [hd, if_pos rfl]
    exact atR_bad1 (.inl hn)
theorem atR_decode (s : ByteArray) (a : Nat) (ha : a < s.size) :
    atR s a = (if Utf8.decode s a = (65533, 1) then -1 else ((Utf8.decode s a).1 : Int), ((Utf8.decode s a).2 : Int)) := by
  have h := decode_decI s a
  rw [atR_decI s a ha, ← h]
  have : ((((Utf8.decode s a).1 : Int), ((Utf8.decode s a).2 : Int)) = (65533, 1)) ↔ Utf8.decode s a = (65533, 1) := by
    rcases hd : Utf8.decode s a with ⟨x, y⟩
    simp only [Prod.mk.injEq]; omega
  simp only [this]
end Go.Proofs.Ytdepkpnicfcbiaa
