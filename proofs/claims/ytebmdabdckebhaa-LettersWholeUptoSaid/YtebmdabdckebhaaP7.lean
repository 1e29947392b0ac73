/- Letters, plainly: where pieces end; a stray has one byte; a letter's bytes are its writing. -/
import Derived.Test.YtebmdabdckebhaaP6
namespace Go.Proofs.Ytebmdabdckebhaa
open Go.RowKit

theorem atR_neg (s : ByteArray) (a : Nat) (ha : a < s.size) (h : (atR s a).1 < 0) : (atR s a).2 = 1 := by
  rw [atR_atL s a ha] at h ⊢
  rw [atL_neg _ h]
theorem enc_text (s : ByteArray) (a : Nat) (ha : a < s.size) (h : ¬ (atR s a).1 < 0) : encS (atR s a).1 = s.extract a (a + (atR s a).2.toNat) ∧ encE (atR s a).1 = 0 := by
  have hl : isLetterB (atR s a).1 = true := by rw [atR_atL s a ha] at h ⊢; exact atL_letter _ (by omega)
  have ht := unit_text s a ha
  rw [if_neg h, ← encS_text _ hl] at ht
  refine ⟨?_, by unfold encE; rw [if_pos hl]⟩
  exact ByteArray.ext (Array.toList_inj.1 ht.symm)
def endP (l : List Tri) (z : Int) (j : Nat) : Int := match l[j]? with | some u => u.2.1 | none => z
theorem endP_lt {l : List Tri} {z : Int} {j : Nat} (h : j < l.length) : endP l z j = l[j].2.1 := by unfold endP; rw [List.getElem?_eq_getElem h]
theorem endP_ge {l : List Tri} {z : Int} {j : Nat} (h : ¬ j < l.length) : endP l z j = z := by unfold endP; rw [List.getElem?_eq_none (by omega)]
theorem endP_zero {l : List Tri} {z : Int} (h : Good l z) : endP l z 0 = 0 := by
  obtain ⟨g1, g2, g3, g4⟩ := h
  by_cases hl : 0 < l.length
  · rw [endP_lt hl]; exact (g1 0 hl).2 rfl
  · rw [endP_ge hl]; exact g4 (List.eq_nil_of_length_eq_zero (by omega))
theorem endP_step {l : List Tri} {z : Int} (h : Good l z) {j : Nat} (hj : j < l.length) : endP l z (j + 1) = l[j].2.1 + l[j].2.2 := by
  obtain ⟨g1, g2, g3, g4⟩ := h
  by_cases hl : j + 1 < l.length
  · rw [endP_lt hl]; exact (g2 j hl).1
  · rw [endP_ge hl]
    obtain ⟨o, q, rfl⟩ : ∃ o q, l = o ++ [q] := by
      rcases List.eq_nil_or_concat l with rfl | ⟨o, q, rfl⟩
      · simp at hj
      · exact ⟨o, q, List.concat_eq_append⟩
    have e : j = o.length := by simp at hj hl; omega
    subst e
    simp only [List.getElem_concat_length]
    exact (g3 o q rfl).symm
theorem endP_bd {l : List Tri} {z : Int} (h : Good l z) : ∀ j, 0 ≤ endP l z j ∧ (j ≤ l.length → endP l z j ≤ z) := by
  have lo : ∀ j, j ≤ l.length → 0 ≤ endP l z j := by
    intro j
    induction j with
    | zero => intro _; rw [endP_zero h]; omega
    | succ j ih =>
      intro hj
      have := ih (by omega)
      rw [endP_step h (by omega)]; rw [endP_lt (show j < l.length by omega)] at this
      have := (h.1 j (by omega)).1; omega
  have hi : ∀ d j, j + d = l.length → endP l z j ≤ z := by
    intro d
    induction d with
    | zero => intro j hj; rw [endP_ge (by omega)]; omega
    | succ d ih =>
      intro j hj
      have := ih (j + 1) (by omega)
      rw [endP_step h (by omega)] at this; rw [endP_lt (show j < l.length by omega)]
      have := (h.1 j (by omega)).1; omega
  intro j
  refine ⟨?_, fun hj => hi (l.length - j) j (by omega)⟩
  by_cases hj : j ≤ l.length
  · exact lo j hj
  · rw [endP_ge (by omega), ← endP_ge (l := l) (z := z) (j := l.length) (by omega)]; exact lo _ (Nat.le_refl _)
theorem pieces_two (s : ByteArray) : (piecesTo (unitsFrom s s.size 0) (unitsFrom s s.size 0).length).map (·.1) = (piecesTo (unitsFrom (foldB s) (foldB s).size 0) (unitsFrom (foldB s) (foldB s).size 0).length).map (·.1) := by
  rw [units_fold_len]
  exact pieces_kinds _ _ (units_fold_len s).symm (fold_kinds s) _ (Nat.le_refl _)
theorem pieces_whole (s : ByteArray) : Good (piecesTo (unitsFrom s s.size 0) (unitsFrom s s.size 0).length) (s.size : Int) := by
  have hc := units_contig s s.size 0 (by omega) (by omega)
  rw [show ((0 : Nat) : Int) = 0 from rfl] at hc
  have h1 : ∀ u ∈ unitsFrom s s.size 0, 1 ≤ u.2.1 := by
    intro u hu
    obtain ⟨b, hb, e⟩ := unit_mem s s.size 0 u hu
    have h := (atR_2 s b).1
    subst e; clear hb hu; generalize atR s b = q at *; exact h
  generalize unitsFrom s s.size 0 = l at *
  have := pieces_good hc h1 l.length (Nat.le_refl _)
  rwa [endAt_ge (by omega)] at this
theorem pieces_kind_bd (l : List Tri) : ∀ k, ∀ p ∈ piecesTo l k, 1 ≤ p.1 ∧ p.1 ≤ 5
  | 0, p, h => by simp [piecesTo] at h
  | k + 1, p, h => by
    by_cases hk : k < l.length
    · rw [piecesTo_succ l k hk] at h
      rcases pieceStep_cases (piecesTo l k) l[k] with ⟨o, q, e, _, _, he⟩ | ⟨he, _⟩
      · rw [he] at h
        rcases List.mem_append.1 h with h | h
        · exact pieces_kind_bd l k p (by rw [e]; simp [h])
        · have : p = (q.1, q.2.1, q.2.2 + l[k].2.1) := by simpa using h
          subst this
          exact pieces_kind_bd l k q (by rw [e]; simp)
      · rw [he] at h
        rcases List.mem_append.1 h with h | h
        · exact pieces_kind_bd l k p h
        · have : p = pieceOf l[k] := by simpa using h
          subst this
          exact kind_bd _
    · have : piecesTo l (k + 1) = piecesTo l k := by unfold piecesTo; rw [List.take_of_length_le (by omega), List.take_of_length_le (by omega)]
      rw [this] at h; exact pieces_kind_bd l k p h
end Go.Proofs.Ytebmdabdckebhaa
