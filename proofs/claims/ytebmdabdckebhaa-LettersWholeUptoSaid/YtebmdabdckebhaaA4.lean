/- Walks: both Encodes. -/
import Derived.Test.YtebmdabdckebhaaA1
namespace Go.Proofs.Ytebmdabdckebhaa
open Go.RowKit

def encS (c : Int) : ByteArray := if isLetterB c = true then Utf8.encode c else .empty
def encE (c : Int) : Int := if isLetterB c = true then 0 else 3
/-- a text made of a new slice of bytes -/
theorem run_conv_new {P : Program} (w : World) (src dst e : TypeId) (xs : List Int) (cap : Nat) (hs : P.underlying src = some (.slice e)) (he : P.underlying e = some (.int .u8)) (hd : P.underlying dst = some .string) :
    (convert src dst (.slice (some ⟨w.heap.size, 0, none⟩) xs.length cap)).run P (w.alloc (.cells (xs.map (Value.int .u8)).toArray e)) =
      .ok (.string (strOfNums xs)) (w.alloc (.cells (xs.map (Value.int .u8)).toArray e)) := by
  refine run_convert_bytes_arg _ src e hs he w.heap.size 0 xs.length cap xs rfl (fun i hi => ?_) dst hd
  rw [Nat.zero_add, (Blk.new w e _).cell i]
  simp [List.getD, hi]
theorem encode1 (c : Int) (h : isLetterB c = true) (h1 : c < 128) : strOfNums [c] = Utf8.encode c := by
  have hb := h; unfold isLetterB at hb; simp at hb
  unfold Utf8.encode; rw [valid_letter, h, if_pos rfl]
  dsimp only; rw [if_pos (by omega)]; rfl
theorem encode2 (c : Int) (h : isLetterB c = true) (h1 : 128 ≤ c) (h2 : c < 2048) : strOfNums [192 + c / 64, 128 + c % 64] = Utf8.encode c := by
  have hb := h; unfold isLetterB at hb; simp at hb
  unfold Utf8.encode; rw [valid_letter, h, if_pos rfl]
  dsimp only; rw [if_neg (by omega), if_pos (by omega)]
  unfold strOfNums; simp only [List.map_cons, List.map_nil]
  rw [show (192 + c / 64).toNat = 192 + c.toNat / 64 by omega, show (128 + c % 64).toNat = 128 + c.toNat % 64 by omega]
theorem encode3 (c : Int) (h : isLetterB c = true) (h1 : 2048 ≤ c) (h2 : c < 65536) : strOfNums [224 + c / 4096, 128 + c / 64 % 64, 128 + c % 64] = Utf8.encode c := by
  have hb := h; unfold isLetterB at hb; simp at hb
  unfold Utf8.encode; rw [valid_letter, h, if_pos rfl]
  dsimp only; rw [if_neg (by omega), if_neg (by omega), if_pos (by omega)]
  unfold strOfNums; simp only [List.map_cons, List.map_nil]
  rw [show (224 + c / 4096).toNat = 224 + c.toNat / 4096 by omega, show (128 + c / 64 % 64).toNat = 128 + c.toNat / 64 % 64 by omega, show (128 + c % 64).toNat = 128 + c.toNat % 64 by omega]
theorem encode4 (c : Int) (h : isLetterB c = true) (h1 : 65536 ≤ c) : strOfNums [240 + c / 262144, 128 + c / 4096 % 64, 128 + c / 64 % 64, 128 + c % 64] = Utf8.encode c := by
  have hb := h; unfold isLetterB at hb; simp at hb
  unfold Utf8.encode; rw [valid_letter, h, if_pos rfl]
  dsimp only; rw [if_neg (by omega), if_neg (by omega), if_neg (by omega)]
  unfold strOfNums; simp only [List.map_cons, List.map_nil]
  rw [show (240 + c / 262144).toNat = 240 + c.toNat / 262144 by omega, show (128 + c / 4096 % 64).toNat = 128 + c.toNat / 4096 % 64 by omega, show (128 + c / 64 % 64).toNat = 128 + c.toNat / 64 % 64 by omega, show (128 + c % 64).toNat = 128 + c.toNat % 64 by omega]

set_option maxRecDepth 100000 in
set_option maxHeartbeats 1000000 in
theorem rEncode_any (c : Int) (w : World) :
    Calls Try.prog 11 #[.int .i64 c] w fun e w' => e = .returned (.tuple #[.string (encS c), .int .i64 (encE c)]) ∧ Below w.heap.size w w' := by
  rcases h : isLetterB c with _ | _
  · have H := Lib.hid h
    go_enter Try.func11, Try.ntmps11
    go_wp2_with (go_at_call 25; refine (isLetter_any _ _).mono ?_; rintro e w' ⟨rfl, rfl⟩)
    go_ret2
    refine ⟨?_, Below.refl _ _⟩
    simp only [encS, encE, H.out]; rfl
  · have hb : 0 ≤ c ∧ c ≤ 1114111 := by unfold isLetterB at h; simp at h; omega
    obtain ⟨hb0, hb1⟩ := hb
    have H := Lib.hid h
    have HE : Hid (encS c = Utf8.encode c ∧ encE c = 0) := Lib.hid ⟨by unfold encS; rw [h]; rfl, by unfold encE; rw [h]; rfl⟩
    have hX : Below w.heap.size w w := Below.refl _ _
    by_cases h1 : c < 128
    · have hc := run_conv_new (P := Try.prog) w 50 9 5 [c] 1 Try.underlying50 Try.underlying5 Try.underlying9
      rw [encode1 c h h1] at hc
      simp only [List.map_cons, List.map_nil, List.length_cons, List.length_nil, Nat.zero_add] at hc
      go_enter Try.func11, Try.ntmps11
      go_wp2_with (go_at_call 25; refine (isLetter_any _ _).mono ?_; rintro e w' ⟨rfl, rfl⟩)
      go_ret2
      rw [HE.out.1, HE.out.2]
      exact ⟨rfl, hX.alloc (Nat.le_refl _) _⟩
    by_cases h2 : c < 2048
    · have hc := run_conv_new (P := Try.prog) w 50 9 5 [192 + c / 64, 128 + c % 64] 2 Try.underlying50 Try.underlying5 Try.underlying9
      rw [encode2 c h (by omega) h2] at hc
      simp only [List.map_cons, List.map_nil, List.length_cons, List.length_nil, Nat.zero_add] at hc
      go_enter Try.func11, Try.ntmps11
      go_wp2_with (go_at_call 25; refine (isLetter_any _ _).mono ?_; rintro e w' ⟨rfl, rfl⟩)
      go_ret2
      rw [HE.out.1, HE.out.2]
      exact ⟨rfl, hX.alloc (Nat.le_refl _) _⟩
    by_cases h3 : c < 65536
    · have hc := run_conv_new (P := Try.prog) w 50 9 5 [224 + c / 4096, 128 + c / 64 % 64, 128 + c % 64] 3 Try.underlying50 Try.underlying5 Try.underlying9
      rw [encode3 c h (by omega) h3] at hc
      simp only [List.map_cons, List.map_nil, List.length_cons, List.length_nil, Nat.zero_add] at hc
      go_enter Try.func11, Try.ntmps11
      go_wp2_with (go_at_call 25; refine (isLetter_any _ _).mono ?_; rintro e w' ⟨rfl, rfl⟩)
      go_ret2
      rw [HE.out.1, HE.out.2]
      exact ⟨rfl, hX.alloc (Nat.le_refl _) _⟩
    · have hc := run_conv_new (P := Try.prog) w 50 9 5 [240 + c / 262144, 128 + c / 4096 % 64, 128 + c / 64 % 64, 128 + c % 64] 4 Try.underlying50 Try.underlying5 Try.underlying9
      rw [encode4 c h (by omega)] at hc
      simp only [List.map_cons, List.map_nil, List.length_cons, List.length_nil, Nat.zero_add] at hc
      go_enter Try.func11, Try.ntmps11
      go_wp2_with (go_at_call 25; refine (isLetter_any _ _).mono ?_; rintro e w' ⟨rfl, rfl⟩)
      go_ret2
      rw [HE.out.1, HE.out.2]
      exact ⟨rfl, hX.alloc (Nat.le_refl _) _⟩

set_option maxRecDepth 100000 in
set_option maxHeartbeats 1000000 in
theorem encode_any (c : Int) (_hc : (Lit.int .i64 c).wf = true) (w : World) :
    Calls Try.prog 10 #[.int .i64 c] w fun e w' => e = .returned (.tuple #[.string (encS c), .int .i64 (encE c)]) ∧ w = w' := by
  rcases h : isLetterB c with _ | _
  · have HE : Hid (encS c = ⟨#[]⟩ ∧ encE c = 3) := Lib.hid ⟨by unfold encS; rw [h]; rfl, by unfold encE; rw [h]; rfl⟩
    have hn : c < 0 ∨ 1114111 < c ∨ (55296 ≤ c ∧ c ≤ 57343) := by unfold isLetterB at h; simp at h; omega
    clear h
    rcases hn with hn | hn | ⟨hn, hn'⟩
    all_goals
      go_enter Try.func10, Try.ntmps10
      go_wp2
      go_ret2
      rw [HE.out.1, HE.out.2]
      exact ⟨rfl, rfl⟩
  · have HE : Hid (encS c = Utf8.encode c ∧ encE c = 0) := Lib.hid ⟨by unfold encS; rw [h]; rfl, by unfold encE; rw [h]; rfl⟩
    have hb : 0 ≤ c ∧ c ≤ 1114111 ∧ ¬ (55296 ≤ c ∧ c ≤ 57343) := by unfold isLetterB at h; simp at h; omega
    obtain ⟨hb0, hb1, hb2⟩ := hb
    clear h
    go_enter Try.func10, Try.ntmps10
    go_wp2
    all_goals go_ret2
    all_goals rw [HE.out.1, HE.out.2]
    all_goals exact ⟨rfl, rfl⟩
end Go.Proofs.Ytebmdabdckebhaa
