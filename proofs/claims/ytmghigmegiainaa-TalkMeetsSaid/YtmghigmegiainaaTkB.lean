/- Walks: R.Later, sameTold, R.WrongTold. -/
import Derived.Test.YtmghigmegiainaaTkA
namespace Go.Proofs.Ytmghigmegiainaa
open Go.RowKit

def rLater (a b : Told) : Bool := if a.ver ≠ b.ver then decide (b.ver < a.ver) else if a.who ≠ b.who then decide (b.who < a.who) else strGt a.val b.val
theorem bytesLess_irrefl : ∀ l : List UInt8, Op.bytesLess l l = false
  | [] => by simp [Op.bytesLess]
  | a :: r => by simp [Op.bytesLess, bytesLess_irrefl r]
theorem rLater_eq (a b : Told) : rLater a b = decide (0 < a.later b) := by
  unfold rLater Told.later or3 cmpI cmpS
  by_cases h1 : a.ver < b.ver
  · simp [h1, show ¬ a.ver = b.ver from by omega]; omega
  · by_cases h2 : b.ver < a.ver
    · simp [h1, h2, show ¬ a.ver = b.ver from by omega]
    · have h3 : a.ver = b.ver := by omega
      by_cases h4 : a.who < b.who
      · simp [h3, h4, show ¬ a.who = b.who from by omega]; omega
      · by_cases h5 : b.who < a.who
        · simp [h3, h4, h5, show ¬ a.who = b.who from by omega]
        · have h6 : a.who = b.who := by omega
          simp [h3, h6]
          unfold strLt strGt
          cases Op.bytesLess a.val.toList b.val.toList <;> cases (a.val.toList == b.val.toList) <;> simp
theorem ba_ext {x y : ByteArray} (h : (x.toList == y.toList) = true) : x = y := by
  have h' := eq_of_beq h
  rw [Lib.toList_data, Lib.toList_data] at h'
  cases x; cases y
  simpa using h'
theorem later_zero (a b : Told) : a.later b = 0 ↔ a.ver = b.ver ∧ a.who = b.who ∧ a.val = b.val := by
  constructor
  · intro h
    unfold Told.later or3 cmpI cmpS at h
    by_cases h1 : a.ver < b.ver
    · simp [h1] at h
    · by_cases h2 : b.ver < a.ver
      · simp [h1, h2] at h
      · have h3 : a.ver = b.ver := by omega
        by_cases h4 : a.who < b.who
        · simp [h3, h4] at h
        · by_cases h5 : b.who < a.who
          · simp [h3, h4, h5] at h
          · refine ⟨h3, by omega, ba_ext ?_⟩
            simp [h1, h2, h4, h5] at h
            unfold strLt strGt at h
            revert h
            cases Op.bytesLess a.val.toList b.val.toList <;> cases (a.val.toList == b.val.toList) <;> simp
  · rintro ⟨h1, h2, h3⟩
    unfold Told.later or3 cmpI cmpS strLt strGt
    simp [h1, h2, h3, bytesLess_irrefl]

set_option maxHeartbeats 1000000 in
theorem rLater_any (a b : Told) (w : World) : Calls Try.prog 19 #[a.val_, b.val_] w fun e w' => e = .returned (.bool (rLater a b)) ∧ Below w.heap.size w w' := by
  unfold Told.val_
  have hA : Blk ((w.alloc (.cells #[.int .i64 a.slot, .int .i64 a.ver, .int .i64 a.who, .string a.val, .bool a.opn] 44)).alloc (.cells #[.int .i64 b.slot, .int .i64 b.ver, .int .i64 b.who, .string b.val, .bool b.opn] 44)) w.heap.size 44 #[.int .i64 a.slot, .int .i64 a.ver, .int .i64 a.who, .string a.val, .bool a.opn] := (Blk.new _ _ _).alloc _
  have hB : Blk ((w.alloc (.cells #[.int .i64 a.slot, .int .i64 a.ver, .int .i64 a.who, .string a.val, .bool a.opn] 44)).alloc (.cells #[.int .i64 b.slot, .int .i64 b.ver, .int .i64 b.who, .string b.val, .bool b.opn] 44)) (w.heap.size + 1) 44 #[.int .i64 b.slot, .int .i64 b.ver, .int .i64 b.who, .string b.val, .bool b.opn] := by
    have := Blk.new (w.alloc (.cells #[.int .i64 a.slot, .int .i64 a.ver, .int .i64 a.who, .string a.val, .bool a.opn] 44)) 44 #[.int .i64 b.slot, .int .i64 b.ver, .int .i64 b.who, .string b.val, .bool b.opn]
    rwa [World.size_alloc] at this
  have hX : Below w.heap.size w ((w.alloc (.cells #[.int .i64 a.slot, .int .i64 a.ver, .int .i64 a.who, .string a.val, .bool a.opn] 44)).alloc (.cells #[.int .i64 b.slot, .int .i64 b.ver, .int .i64 b.who, .string b.val, .bool b.opn] 44)) := ((Below.refl _ _).alloc (Nat.le_refl _) _).alloc (by simp) _
  have HA := Lib.hid hA; have HB := Lib.hid hB; have HX := Lib.hid hX
  clear hA hB hX
  have HO : Hid (rLater a b = if a.ver ≠ b.ver then decide (b.ver < a.ver) else if a.who ≠ b.who then decide (b.who < a.who) else strGt a.val b.val) := Lib.hid rfl
  unfold strGt at HO
  generalize rLater a b = o at *
  go_enter Try.func19, Try.ntmps19
  go_upto_region 1 with fail
  generalize ((w.alloc (.cells #[.int .i64 a.slot, .int .i64 a.ver, .int .i64 a.who, .string a.val, .bool a.opn] 44)).alloc (.cells #[.int .i64 b.slot, .int .i64 b.ver, .int .i64 b.who, .string b.val, .bool b.opn] 44)) = w1 at *
  obtain ⟨a0, a1, a2, a3, a4⟩ := blk5 HA.out
  obtain ⟨b0, b1, b2, b3, b4⟩ := blk5 HB.out
  go_wp2
  all_goals go_ret
  all_goals refine ⟨?_, HX.out⟩
  all_goals rw [HO.out]
  all_goals simp_all

theorem told_at {w : World} {S : Nat → Prop} {A : Option Addr} {c : Nat} {l : List Told} (h : Sl rTold w S A c l) {k : Nat} (hk : k < l.length) :
    ∃ ad, A = some ad ∧ S ad.block ∧ (l[k]'hk).fits ∧ w.cell? (ad.add (k * 5)) = some (.int .i64 (l[k]'hk).slot) ∧ w.cell? ⟨(ad.add (k * 5)).block, (ad.add (k * 5)).off + 1, none⟩ = some (.int .i64 (l[k]'hk).ver) ∧
      w.cell? ⟨(ad.add (k * 5)).block, (ad.add (k * 5)).off + 2, none⟩ = some (.int .i64 (l[k]'hk).who) ∧ w.cell? ⟨(ad.add (k * 5)).block, (ad.add (k * 5)).off + 3, none⟩ = some (.string (l[k]'hk).val) ∧
      w.cell? ⟨(ad.add (k * 5)).block, (ad.add (k * 5)).off + 4, none⟩ = some (.bool (l[k]'hk).opn) := by
  obtain ⟨ad, u, e, hs, ⟨rfl, hf⟩, h0, h1⟩ := h.fields hk
  exact ⟨ad, e, hs, hf, h0 _ rfl, h1 0 _ rfl, h1 1 _ rfl, h1 2 _ rfl, h1 3 _ rfl⟩
theorem told_ext {x y : Told} (h1 : x.slot = y.slot) (h2 : x.ver = y.ver) (h3 : x.who = y.who) (h4 : x.val = y.val) (h5 : x.opn = y.opn) : x = y := by
  cases x; cases y; simp_all
set_option maxHeartbeats 1000000 in
theorem sameTold_any (S T : Nat → Prop) (A B : Option Addr) (c d : Nat) (l : List Told) (w : World) (h : Sl rTold w S A c l) (h' : Sl rTold w T B d l) :
    Calls Try.prog 13 #[.slice A l.length c, .slice B l.length d] w fun e w' => e = .returned (.bool true) ∧ Below w.heap.size w w' := by
  have hl := h.le
  have hm := h.max
  have hl' := h'.le
  have hm' := h'.max
  unfold maxLen at hm hm'
  have HS := Lib.hid h
  have HT := Lib.hid h'
  clear h h'
  go_enter Try.func13, Try.ntmps13
  go_wp2
  go_loopw [5] (fun i wr => ∃ k : Nat, k ≤ l.length ∧ i = .int .i64 (k : Int) ∧ Hid (Below w.heap.size w wr) ∧ Hid (∀ p, wr.cell? p = w.cell? p)) (fun i _ => l.length - (intOf i).toNat)
  case atStart => exact ⟨0, by omega, rfl, Lib.hid (Below.refl _ _), Lib.hid fun _ => rfl⟩
  case round =>
    obtain ⟨k, hk, rfl, HX, HK⟩ := hrel
    by_cases hlt : k < l.length
    · obtain ⟨a, rfl, _, _, a0, a1, a2, a3, a4⟩ := told_at (HS.out.keep fun p _ => HK.out p) hlt
      obtain ⟨b, rfl, _, _, b0, b1, b2, b3, b4⟩ := told_at (HT.out.keep fun p _ => HK.out p) hlt
      generalize l[k]'hlt = x at *
      go_wp2_with fail
      go_quiet (fail)
      go_wp2
      go_roundw
      case rel => exact ⟨k + 1, by omega, by go_num, Lib.hid (below_drewN HX.out _), Lib.hid fun p => HK.out p⟩
      case measure => simp [intOf]; omega
    · go_wp2
      go_ret
      exact ⟨rfl, HX.out⟩

theorem wrongT_pos {n : Nat} {x : Told} {l : List Told} {k : Nat} (hk : k < l.length) (hx : l[k]'hk = x) (h : wrongT n x ≠ 0) : wrongL n (l.drop k) = wrongT n x := by
  subst hx; rw [wrongL_drop hk, if_pos h]
theorem wrongT_neg {n : Nat} {x : Told} {l : List Told} {k : Nat} (hk : k < l.length) (hx : l[k]'hk = x) (h : wrongT n x = 0) : wrongL n (l.drop k) = wrongL n (l.drop (k + 1)) := by
  subst hx; rw [wrongL_drop hk, if_neg (by simp [h])]
theorem wrongT_cases (n : Nat) (x : Told) : (x.slot < 0 ∧ wrongT n x = 5) ∨ (¬ x.slot < 0 ∧ (n : Int) ≤ x.slot ∧ wrongT n x = 5) ∨ (¬ x.slot < 0 ∧ ¬ (n : Int) ≤ x.slot ∧
    ((x.ver < 1 ∧ wrongT n x = 3) ∨ (¬ x.ver < 1 ∧ 1000000 < x.ver ∧ wrongT n x = 3) ∨ (¬ x.ver < 1 ∧ ¬ 1000000 < x.ver ∧ x.who < 1 ∧ wrongT n x = 3) ∨ (¬ x.ver < 1 ∧ ¬ 1000000 < x.ver ∧ ¬ x.who < 1 ∧ 9 < x.who ∧ wrongT n x = 3) ∨
    (¬ x.ver < 1 ∧ ¬ 1000000 < x.ver ∧ ¬ x.who < 1 ∧ ¬ 9 < x.who ∧ ((100 < x.val.size ∧ wrongT n x = 2) ∨ (¬ 100 < x.val.size ∧ wrongT n x = 0))))) := by
  unfold wrongT
  by_cases h1 : x.slot < 0
  · simp [h1]
  · by_cases h2 : (n : Int) ≤ x.slot
    · simp [h1, h2]
    · by_cases h3 : x.ver < 1
      · simp [h1, h2, h3]
      · by_cases h4 : 1000000 < x.ver
        · simp [h1, h2, h3, h4]
        · by_cases h5 : x.who < 1
          · simp [h1, h2, h3, h4, h5]
          · by_cases h6 : 9 < x.who
            · simp [h1, h2, h3, h4, h5, h6]
            · by_cases h7 : 100 < x.val.size <;> simp [h1, h2, h3, h4, h5, h6, h7]

set_option maxHeartbeats 2000000 in
theorem wrongTold_any (S : Nat → Prop) (A : Option Addr) (c : Nat) (l : List Told) (n : Nat) (w : World) (h : Sl rTold w S A c l) (hS : ∀ b, S b → b < w.heap.size) (hn : n ≤ 1000) :
    Calls Try.prog 21 #[.slice A l.length c, .int .i64 (n : Int)] w fun e w' => e = .returned (.int .i64 (if 20 < l.length then 7 else wrongL n l)) ∧ Below w.heap.size w w' := by
  have hl := h.le
  have hm := h.max
  unfold maxLen at hm
  have HL := Lib.hid h
  have HS := Lib.hid hS
  clear h hS
  go_enter Try.func21, Try.ntmps21
  by_cases hlong : 20 < l.length
  · go_wp2
    go_ret
    exact ⟨rfl, Below.refl _ _⟩
  · rw [if_neg hlong]
    go_wp2
    go_loopw [5] (fun i wr => ∃ k : Nat, k ≤ l.length ∧ i = .int .i64 (k : Int) ∧ Hid (Below w.heap.size w wr) ∧ Hid (wrongL n l = wrongL n (l.drop k))) (fun i _ => l.length - (intOf i).toNat)
    case atStart => exact ⟨0, by omega, rfl, Lib.hid (Below.refl _ _), Lib.hid rfl⟩
    case round =>
      obtain ⟨k, hk, rfl, HX, HW⟩ := hrel
      by_cases hlt : k < l.length
      · obtain ⟨a, rfl, _, _, a0, a1, a2, a3, a4⟩ := told_at (HL.out.below HS.out HX.out) hlt
        have HP := Lib.hid (@wrongT_pos n _ l k hlt rfl)
        have HN := Lib.hid (@wrongT_neg n _ l k hlt rfl)
        have HX2 := Lib.hid (HX.out.alloc HX.out.size (.cells #[.int .i64 (l[k]'hlt).slot, .int .i64 (l[k]'hlt).ver, .int .i64 (l[k]'hlt).who, .string (l[k]'hlt).val, .bool (l[k]'hlt).opn] 44))
        have hcs := wrongT_cases n (l[k]'hlt)
        generalize hx : l[k]'hlt = x at *
        clear hx
        rcases hcs with ⟨h1, h9⟩ | ⟨h1, h2, h9⟩ | ⟨h1, h2, ⟨h3, h9⟩ | ⟨h3, h4, h9⟩ | ⟨h3, h4, h5, h9⟩ | ⟨h3, h4, h5, h6, h9⟩ | ⟨h3, h4, h5, h6, ⟨h7, h9⟩ | ⟨h7, h9⟩⟩⟩
        all_goals have H9 := Lib.hid h9
        all_goals clear h9
        all_goals go_wp2
        all_goals try (go_ret; exact ⟨by rw [HW.out, HP.out (by rw [H9.out]; decide), H9.out]; rfl, HX2.out⟩)
        go_roundw
        case rel => exact ⟨k + 1, by omega, by go_num, HX2, Lib.hid (by rw [HW.out, HN.out H9.out])⟩
        case measure => simp [intOf]; omega
      · go_wp2
        go_ret
        exact ⟨by rw [HW.out, List.drop_eq_nil_of_le (by omega)]; rfl, HX.out⟩
