/- Walks: RuneLen, HasPrefix, letters.Units. -/
import Derived.Test.YtdepkpnicfcbiaaA1
namespace Go.Proofs.Ytdepkpnicfcbiaa
open Go.RowKit

def runeLenS (c : Int) : Int := if c < 0 then -1 else if c ≤ 127 then 1 else if c ≤ 2047 then 2 else if 55296 ≤ c ∧ c ≤ 57343 then -1 else if c ≤ 65535 then 3 else if c ≤ 1114111 then 4 else -1
set_option maxHeartbeats 400000 in
theorem runeLen_any (c : Int) (w : World) :
    Calls Try.prog 21 #[.int .i32 c] w fun e w' => e = .returned (.int .i64 (runeLenS c)) ∧ w = w' := by
  go_enter Try.func21, Try.ntmps21
  go_wp2
  all_goals go_ret
  all_goals refine ⟨ret_int ?_, rfl⟩
  all_goals unfold runeLenS
  all_goals (repeat' split) <;> omega

def prefB (p s : ByteArray) : Bool := p.data.toList.isPrefixOf s.data.toList
theorem extract_prefix (s p : ByteArray) (_h : p.size ≤ s.size) : ((s.extract 0 p.size).toList == p.toList) = prefB p s := by
  unfold prefB
  rw [ByteArray.toList_eq, ByteArray.toList_eq, ByteArray.data_extract, Array.toList_extract]
  rw [Bool.eq_iff_iff, beq_iff_eq, List.isPrefixOf_iff_prefix, List.prefix_iff_eq_take]
  rw [Array.length_toList]
  rw [List.extract_eq_take_drop]
  simp only [List.drop_zero, Nat.sub_zero]
  exact ⟨fun e => e.symm, fun e => e.symm⟩
set_option maxHeartbeats 400000 in
theorem hasPrefixL_any (s p : ByteArray) (_hs : s.size ≤ 4294967296) (_hp : p.size ≤ 4294967296) (w : World) :
    Calls Try.prog 26 #[.string s, .string p] w fun e w' => e = .returned (.bool (prefB p s)) ∧ w = w' := by
  by_cases h : p.size ≤ s.size
  · go_enter Try.func26, Try.ntmps26
    go_wp2
    go_ret
    refine ⟨ret_bool ?_, rfl⟩
    exact extract_prefix s p h
  · go_enter Try.func26, Try.ntmps26
    go_wp2
    go_ret
    refine ⟨ret_bool ?_, rfl⟩
    symm
    rw [Bool.eq_false_iff]
    intro hh
    have := (List.isPrefixOf_iff_prefix.1 hh).length_le
    rw [Array.length_toList, Array.length_toList] at this
    exact h this

set_option maxHeartbeats 400000 in
theorem hasPrefix_any (s p : ByteArray) (hs : s.size ≤ 4294967296) (hp : p.size ≤ 4294967296) (w : World) :
    Calls Try.prog 22 #[.string s, .string p] w fun e w' => e = .returned (.bool (prefB p s)) ∧ w = w' := by
  go_enter Try.func22, Try.ntmps22
  go_wp2_with (go_at_call 26; refine (hasPrefixL_any _ _ hs hp _).mono ?_; rintro e w' ⟨rfl, rfl⟩)
  go_ret
  exact ⟨rfl, rfl⟩

def fffd : ByteArray := ⟨#[239, 191, 189]⟩
/-- a letter's own sign of a stray -/
theorem pref_fffd (s : ByteArray) (a : Nat) (ha : a < s.size) : prefB fffd (s.extract a s.size) = decide (byteI s a = 239 ∧ byteI s (a + 1) = 191 ∧ byteI s (a + 2) = 189) := by
  unfold prefB fffd byteI
  rw [ByteArray.data_extract, Array.toList_extract, List.extract_eq_take_drop]
  have hl : s.data.toList.length = s.size := by rw [Array.length_toList]; rfl
  generalize s.data.toList = l at *
  have : List.take (s.size - a) (l.drop a) = l.drop a := List.take_of_length_le (by rw [List.length_drop]; omega)
  rw [this]
  have e0 : l.getD a 0 = (l.drop a).getD 0 0 := by simp [List.getD_eq_getElem?_getD, List.getElem?_drop]
  have e1 : l.getD (a + 1) 0 = (l.drop a).getD 1 0 := by simp [List.getD_eq_getElem?_getD, List.getElem?_drop]
  have e2 : l.getD (a + 2) 0 = (l.drop a).getD 2 0 := by simp [List.getD_eq_getElem?_getD, List.getElem?_drop]
  rw [e0, e1, e2]
  have q : ∀ (x : UInt8) (n : Nat), n < 256 → ((x.toNat : Int) = n ↔ UInt8.ofNat n = x) := by
    intro x n hn
    constructor
    · intro h; rw [← UInt8.toNat_inj]; simp; omega
    · rintro rfl; simp; omega
  rw [Bool.eq_iff_iff, decide_eq_true_eq]
  match l.drop a with
  | [] => simp
  | [x] => simp [List.isPrefixOf]
  | [x, y] => simp [List.isPrefixOf]
  | x :: y :: z :: r =>
    simp only [List.isPrefixOf, List.getD_cons_zero, List.getD_cons_succ, Bool.and_eq_true, beq_iff_eq, and_true]
    have := q x 239 (by decide); have := q y 191 (by decide); have := q z 189 (by decide)
    exact ⟨fun ⟨a, b, c⟩ => ⟨by rw [← a]; rfl, by rw [← b]; rfl, by rw [← c]; rfl⟩, fun ⟨a, b, c⟩ => ⟨(q x 239 (by decide)).1 a, (q y 191 (by decide)).1 b, (q z 189 (by decide)).1 c⟩⟩

/-- what the decoder tells, for the walk: a stray; the sign of a stray itself; any other letter -/
theorem unit_cases (s : ByteArray) (a : Nat) (ha : a < s.size) :
    (((Utf8.decode s a).1 : Int) = 65533 ∧ atR s a = (-1, 1) ∧ prefB fffd (s.extract a s.size) = false ∧ (Utf8.decode s a).2 = 1) ∨
    (((Utf8.decode s a).1 : Int) = 65533 ∧ atR s a = (65533, 3) ∧ prefB fffd (s.extract a s.size) = true ∧ (Utf8.decode s a).2 = 3) ∨
    (((Utf8.decode s a).1 : Int) ≠ 65533 ∧ atR s a = (((Utf8.decode s a).1 : Int), runeLenS (Utf8.decode s a).1) ∧ ((Utf8.decode s a).2 : Int) = runeLenS (Utf8.decode s a).1) := by
  have hd := decode_decI s a
  have hr := atR_decI s a ha
  rw [pref_fffd s a ha]
  have b0 := byteI_bd s a; have b1 := byteI_bd s (a + 1); have b2 := byteI_bd s (a + 2)
  obtain ⟨x, y, hxy⟩ : ∃ x y, Utf8.decode s a = (x, y) := ⟨_, _, rfl⟩
  rw [hxy] at hd ⊢
  rw [← hd] at hr
  dsimp only at hd hr ⊢
  clear hxy
  generalize byteI s a = n0 at *
  generalize byteI s (a + 1) = n1 at *
  generalize byteI s (a + 2) = n2 at *
  generalize byteI s (a + 3) = n3 at *
  generalize atR s a = q at *
  subst hr
  have key : ((x : Int), (y : Int)) = (65533, 1) ∧ ¬ (n0 = 239 ∧ n1 = 191 ∧ n2 = 189) ∨ ((x : Int), (y : Int)) = (65533, 3) ∧ (n0 = 239 ∧ n1 = 191 ∧ n2 = 189) ∨ (x : Int) ≠ 65533 ∧ (y : Int) = runeLenS x := by
    rw [hd]
    have hx : (x : Int) = (decI n0 n1 n2 n3).1 := by rw [← hd]
    have hy : (y : Int) = (decI n0 n1 n2 n3).2 := by rw [← hd]
    rw [hx, hy]
    clear hx hy hd
    unfold decI
    dsimp only
    split
    · refine .inr (.inr ⟨by dsimp only; omega, ?_⟩); unfold runeLenS; dsimp only; rw [if_neg (by omega), if_pos (by omega)]
    · split
      · split
        · refine .inr (.inr ⟨by dsimp only; omega, ?_⟩); unfold runeLenS; dsimp only; rw [if_neg (by omega), if_neg (by omega), if_pos (by omega)]
        · exact .inl ⟨rfl, by omega⟩
      · split
        · split
          · rename_i h1 h2
            have h3 : ¬ (55296 ≤ ((n0 - 224) * 64 + n1 - 128) * 64 + n2 - 128 ∧ ((n0 - 224) * 64 + n1 - 128) * 64 + n2 - 128 ≤ 57343) := by have := h2.2; unfold isLetterB at this; simp at this; omega
            by_cases e : ((n0 - 224) * 64 + n1 - 128) * 64 + n2 - 128 = 65533
            · exact .inr (.inl ⟨by rw [e], by omega⟩)
            · refine .inr (.inr ⟨e, ?_⟩); unfold runeLenS; dsimp only; rw [if_neg (by omega), if_neg (by omega), if_neg (by omega), if_neg h3, if_pos (by omega)]
          · rename_i h1 h2
            refine .inl ⟨rfl, ?_⟩
            rintro ⟨rfl, rfl, rfl⟩
            exact h2 (by decide)
        · split
          · split
            · rename_i h2
              have h3 := h2.2
              unfold isLetterB at h3
              simp only [decide_eq_true_eq] at h3
              refine .inr (.inr ⟨by dsimp only; omega, ?_⟩); unfold runeLenS; dsimp only; rw [if_neg (by omega), if_neg (by omega), if_neg (by omega), if_neg (by omega), if_neg (by omega), if_pos (by omega)]
            · exact .inl ⟨rfl, by omega⟩
          · exact .inl ⟨rfl, by omega⟩
  rcases key with ⟨h, hn⟩ | ⟨h, hn⟩ | ⟨h, hn⟩
  · obtain ⟨rfl, rfl⟩ : x = 65533 ∧ y = 1 := by simp only [Prod.mk.injEq] at h; omega
    exact .inl ⟨rfl, by rfl, decide_eq_false hn, rfl⟩
  · obtain ⟨rfl, rfl⟩ : x = 65533 ∧ y = 3 := by simp only [Prod.mk.injEq] at h; omega
    exact .inr (.inl ⟨rfl, by rfl, decide_eq_true hn, rfl⟩)
  · refine .inr (.inr ⟨h, ?_, hn⟩)
    rw [if_neg (by simp only [Prod.mk.injEq, not_and]; exact fun e => absurd e h), hn]
end Go.Proofs.Ytdepkpnicfcbiaa
