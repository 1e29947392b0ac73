/- Letters, plainly: the units of a fold; a fold of a fold; pieces side by side, no two alike. -/
import Derived.Test.YtebmdabdckebhaaP4
import Derived.Test.YtebmdabdckebhaaA9
namespace Go.Proofs.Ytebmdabdckebhaa
open Go.RowKit

theorem atL_letter (l : List UInt8) (h : 0 ≤ (atL l).1) : isLetterB (atL l).1 = true := by
  have b0 := bI_bd l 0; have b1 := bI_bd l 1
  unfold atL at *
  dsimp only at *
  by_cases e : decL l = (65533, 1)
  · rw [if_pos e] at h; simp at h
  · rw [if_neg e]
    unfold decL at *
    generalize bI l 0 = n0 at *
    generalize bI l 1 = n1 at *
    generalize bI l 2 = n2 at *
    generalize bI l 3 = n3 at *
    unfold decI at *
    dsimp only at *
    by_cases h1 : n0 < 128
    · simp only [h1, if_true]; unfold isLetterB; simp; omega
    simp only [h1, if_false] at e ⊢
    by_cases h2 : (192 ≤ n0 ∧ n0 < 224) ∧ 128 ≤ n1 ∧ n1 ≤ 191
    · simp only [h2, and_self, if_true] at e ⊢
      split at e
      · rw [if_pos (by assumption)]; unfold isLetterB; simp; omega
      · exact absurd rfl e
    simp only [h2, if_false] at e ⊢
    by_cases h3 : (224 ≤ n0 ∧ n0 < 240) ∧ (128 ≤ n1 ∧ n1 ≤ 191) ∧ 128 ≤ n2 ∧ n2 ≤ 191
    · simp only [h3, and_self, if_true] at e ⊢
      split at e
      · rename_i hc; rw [if_pos hc]; exact hc.2
      · exact absurd rfl e
    simp only [h3, if_false] at e ⊢
    by_cases h4 : (240 ≤ n0 ∧ n0 < 248) ∧ (128 ≤ n1 ∧ n1 ≤ 191) ∧ (128 ≤ n2 ∧ n2 ≤ 191) ∧ 128 ≤ n3 ∧ n3 ≤ 191
    · simp only [h4, and_self, if_true] at e ⊢
      split at e
      · rename_i hc; rw [if_pos hc]; exact hc.2
      · exact absurd rfl e
    simp only [h4, if_false, not_true] at e
theorem encode_cons (c : Int) (h : isLetterB c = true) : ∃ b r, Lib.encodeRune c = b :: r ∧ isC b = false := by
  have hb := h; unfold isLetterB at hb; simp only [decide_eq_true_eq] at hb
  have e := atL_encode c h []
  rw [List.append_nil] at e
  cases hr : Lib.encodeRune c with
  | nil => have h1 := (Lib.encodeRuneZ_length c).1; have h2 : (Lib.encodeRuneZ c).length = 0 := by have := congrArg List.length hr; simpa [Lib.encodeRune] using this
           omega
  | cons b r =>
    refine ⟨b, r, rfl, ?_⟩
    rw [hr] at e
    have hd := atL_head (b :: r) (by rw [e]; exact hb.1.1)
    unfold bI at hd
    simp only [List.getD_cons_zero] at hd
    unfold isC; simp only [decide_eq_false_iff_not]; omega
theorem head_noncont (b : UInt8) (r : List UInt8) (h : 0 ≤ (atL (b :: r)).1) : isC b = false := by
  have hd := atL_head (b :: r) h
  unfold bI at hd
  simp only [List.getD_cons_zero] at hd
  unfold isC; simp only [decide_eq_false_iff_not]; omega
theorem FL_neg (n : Nat) (b : UInt8) (r : List UInt8) (h : (atL (b :: r)).1 < 0) : FL (n + 1) (b :: r) = b :: FL n r := by
  rw [FL, atL_neg _ h]; unfold foldP; rw [if_pos h]; rfl
theorem FL_pos (n : Nat) (b : UInt8) (r : List UInt8) (h : ¬ (atL (b :: r)).1 < 0) : FL (n + 1) (b :: r) = Lib.encodeRune (smallS (atL (b :: r)).1) ++ FL n ((b :: r).drop (atL (b :: r)).2.toNat) := by
  rw [FL]; unfold foldP; rw [if_neg h]
theorem run_FL : ∀ (n : Nat) (l : List UInt8), l.length ≤ n → run (FL n l) = run l
  | 0, [], _ => rfl
  | n + 1, [], _ => rfl
  | n + 1, b :: r, h => by
    by_cases hn : (atL (b :: r)).1 < 0
    · rw [FL_neg n b r hn]
      have ih := run_FL n r (by simpa using h)
      unfold run at *
      by_cases hb : isC b = true
      · rw [List.takeWhile_cons_of_pos hb, List.takeWhile_cons_of_pos hb, ih]
      · rw [List.takeWhile_cons_of_neg hb, List.takeWhile_cons_of_neg hb]
    · rw [FL_pos n b r hn]
      obtain ⟨b', r', e, hc⟩ := encode_cons _ (small_letter _ (atL_letter _ (Int.not_lt.1 hn)))
      have h0 := head_noncont b r (Int.not_lt.1 hn)
      rw [e]
      unfold run
      rw [List.cons_append, List.takeWhile_cons_of_neg (by rw [hc]; simp), List.takeWhile_cons_of_neg (by rw [h0]; simp)]
def smU (u : Int × Int) : Int × Int := if u.1 < 0 then u else (smallS u.1, ((Lib.encodeRune (smallS u.1)).length : Int))
theorem small_small (c : Int) (h : 0 ≤ c) : smallS (smallS c) = smallS c := by
  unfold smallS; (repeat' split) <;> omega
theorem kind_small (c : Int) (h : 0 ≤ c) : kindS (smallS c) = kindS c := by
  unfold smallS
  split
  · unfold kindS; (repeat' split) <;> omega
  · split
    · unfold kindS; (repeat' split) <;> omega
    · rfl
theorem small_nonneg (c : Int) (h : 0 ≤ c) : 0 ≤ smallS c := by unfold smallS; (repeat' split) <;> omega
theorem FL_nil (n : Nat) : FL n [] = [] := by cases n <;> rw [FL]
theorem unitsL_nil (n : Nat) : unitsL n [] = [] := by cases n <;> rw [unitsL]
theorem fold_units_nil (n m : Nat) : unitsL m (FL n []) = (unitsL n []).map smU ∧ FL m (FL n []) = FL n [] := by
  rw [FL_nil, unitsL_nil, unitsL_nil, FL_nil]; exact ⟨rfl, rfl⟩
set_option maxRecDepth 100000 in
theorem fold_units : ∀ (n : Nat) (l : List UInt8), l.length ≤ n → ∀ m, (FL n l).length ≤ m → unitsL m (FL n l) = (unitsL n l).map smU ∧ FL m (FL n l) = FL n l
  | 0, [], _, m, _ => fold_units_nil 0 m
  | n + 1, [], _, m, _ => fold_units_nil (n + 1) m
  | n + 1, b :: r, h, m, hm => by
    by_cases hn : (atL (b :: r)).1 < 0
    · rw [FL_neg n b r hn] at *
      obtain ⟨m', rfl⟩ : ∃ m', m = m' + 1 := ⟨m - 1, by simp at hm; omega⟩
      have hr := run_FL n r (by simpa using h)
      have e : atL (b :: FL n r) = atL (b :: r) := atL_run b _ _ hr
      obtain ⟨i1, i2⟩ := fold_units n r (by simpa using h) m' (by simpa using hm)
      have e1 := atL_neg _ hn
      refine ⟨?_, ?_⟩
      · rw [unitsL, unitsL, e, e1, List.map_cons]
        have : smU (-1, 1) = (-1, 1) := rfl
        rw [this]
        show (-1, 1) :: unitsL m' (FL n r) = (-1, 1) :: (unitsL n r).map smU
        rw [i1]
      · rw [FL_neg m' b _ (by rw [e]; exact hn), i2]
    · have hp := Int.not_lt.1 hn
      have hlet := atL_letter _ hp
      have hsl := small_letter _ hlet
      have hlen := atL_len (b :: r)
      rw [FL_pos n b r hn] at *
      generalize hu : atL (b :: r) = u at *
      obtain ⟨b', r', e, _⟩ := encode_cons _ hsl
      have ea := atL_encode _ hsl (FL n ((b :: r).drop u.2.toNat))
      have hz : 1 ≤ (Lib.encodeRune (smallS u.1)).length := by rw [e]; simp
      obtain ⟨m', rfl⟩ : ∃ m', m = m' + 1 := ⟨m - 1, by rw [List.length_append] at hm; omega⟩
      obtain ⟨i1, i2⟩ := fold_units n ((b :: r).drop u.2.toNat) (by rw [List.length_drop]; simp at h ⊢; omega) m' (by rw [List.length_append] at hm; omega)
      generalize hF : FL n ((b :: r).drop u.2.toNat) = F at *
      have hd : (Lib.encodeRune (smallS u.1) ++ F).drop (Lib.encodeRune (smallS u.1)).length = F := List.drop_left
      have hs : smU u = (smallS u.1, ((Lib.encodeRune (smallS u.1)).length : Int)) := by unfold smU; rw [if_neg hn]
      refine ⟨?_, ?_⟩
      · have s1 : unitsL (m' + 1) (Lib.encodeRune (smallS u.1) ++ F) = atL (Lib.encodeRune (smallS u.1) ++ F) :: unitsL m' ((Lib.encodeRune (smallS u.1) ++ F).drop (atL (Lib.encodeRune (smallS u.1) ++ F)).2.toNat) := by
          rw [e, List.cons_append, unitsL]
        rw [s1, ea]
        dsimp only
        rw [Int.toNat_natCast, hd, i1]
        conv => rhs; rw [unitsL, hu]
        rw [List.map_cons, hs]
      · have s1 : FL (m' + 1) (Lib.encodeRune (smallS u.1) ++ F) = foldP (Lib.encodeRune (smallS u.1) ++ F) ++ FL m' ((Lib.encodeRune (smallS u.1) ++ F).drop (atL (Lib.encodeRune (smallS u.1) ++ F)).2.toNat) := by
          rw [e, List.cons_append, FL]
        have s2 : foldP (Lib.encodeRune (smallS u.1) ++ F) = Lib.encodeRune (smallS u.1) := by
          unfold foldP
          rw [ea]
          dsimp only
          rw [if_neg (by have := small_nonneg _ hp; omega), small_small _ hp]
        rw [s1, s2, ea]
        dsimp only
        rw [Int.toNat_natCast, hd, i2]
def foldB (s : ByteArray) : ByteArray := ⟨(foldL s).toArray⟩
theorem foldB_list (s : ByteArray) : (foldB s).data.toList = foldL s := by unfold foldB; simp
theorem foldL_FL (s : ByteArray) : foldL s = FL s.size s.data.toList := by
  have := (units_bridge s s.size 0).2; rw [List.drop_zero] at this; exact this
theorem size_list (s : ByteArray) : s.data.toList.length = s.size := by rw [Array.length_toList]; rfl
theorem fold_fold (s : ByteArray) : foldL (foldB s) = foldL s := by
  rw [foldL_FL (foldB s), foldB_list, foldL_FL s]
  refine (fold_units s.size _ (by rw [size_list]; omega) _ ?_).2
  rw [← foldL_FL, ← size_list, foldB_list]; omega
theorem units_fold (s : ByteArray) : (unitsFrom (foldB s) (foldB s).size 0).map (fun u => (u.2.2, u.2.1)) = (unitsFrom s s.size 0).map (fun u => smU (u.2.2, u.2.1)) := by
  have h1 := (units_bridge s s.size 0).1; have h2 := (units_bridge (foldB s) (foldB s).size 0).1
  rw [List.drop_zero] at h1 h2
  rw [h2, foldB_list, foldL_FL s, (fold_units s.size _ (by rw [size_list]; omega) _ (by rw [← foldL_FL, ← size_list, foldB_list]; omega)).1, ← h1, List.map_map]; rfl
theorem units_fold_len (s : ByteArray) : (unitsFrom (foldB s) (foldB s).size 0).length = (unitsFrom s s.size 0).length := by
  have := congrArg List.length (units_fold s); simpa using this
theorem units_fold_get (s : ByteArray) (i : Nat) (h : i < (unitsFrom s s.size 0).length) (h' : i < (unitsFrom (foldB s) (foldB s).size 0).length) :
    ((unitsFrom (foldB s) (foldB s).size 0)[i]'h').2.2 = if ((unitsFrom s s.size 0)[i]'h).2.2 < 0 then ((unitsFrom s s.size 0)[i]'h).2.2 else smallS ((unitsFrom s s.size 0)[i]'h).2.2 := by
  have := congrArg (fun l => l[i]?) (units_fold s)
  simp only [List.getElem?_map, List.getElem?_eq_getElem h, List.getElem?_eq_getElem h', Option.map_some, Option.some.injEq] at this
  have := congrArg Prod.fst this
  dsimp only at this
  rw [this]; unfold smU; dsimp only; split <;> rfl
end Go.Proofs.Ytebmdabdckebhaa
