/- Letters, plainly: pieces of a list of units. -/
import Derived.Test.YtebmdabdckebhaaA5
namespace Go.Proofs.Ytebmdabdckebhaa
open Go.RowKit

abbrev Tri := Int × Int × Int
/-- the units lie side by side from a to z -/
def contig : List Tri → Int → Int → Prop
  | [], a, z => a = z
  | u :: r, a, z => u.1 = a ∧ contig r (a + u.2.1) z
theorem units_contig (s : ByteArray) : ∀ (n a : Nat), a ≤ s.size → s.size - a ≤ n → contig (unitsFrom s n a) a s.size
  | 0, a, h, hn => by simp only [unitsFrom, contig]; omega
  | n + 1, a, h, hn => by
    rw [unitsFrom]
    split
    · rename_i hlt
      have h1 := atR_2 s a; have h2 := atR_end s a hlt
      simp only [contig, true_and]
      have := units_contig s n (a + (atR s a).2.toNat) (by omega) (by omega)
      rw [show (((a + (atR s a).2.toNat : Nat)) : Int) = (a : Int) + (atR s a).2 by omega] at this
      exact this
    · simp only [contig]; omega
def endAt (l : List Tri) (z : Int) (j : Nat) : Int := match l[j]? with | some u => u.1 | none => z
theorem endAt_lt {l : List Tri} {z : Int} {j : Nat} (h : j < l.length) : endAt l z j = l[j].1 := by unfold endAt; rw [List.getElem?_eq_getElem h]
theorem endAt_ge {l : List Tri} {z : Int} {j : Nat} (h : ¬ j < l.length) : endAt l z j = z := by unfold endAt; rw [List.getElem?_eq_none (by omega)]
theorem contig_step : ∀ {l : List Tri} {a z : Int}, contig l a z → endAt l z 0 = a ∧ ∀ j (h : j < l.length), endAt l z (j + 1) = l[j].1 + l[j].2.1
  | [], a, z, h => ⟨by simp only [contig] at h; rw [endAt_ge (by simp)]; exact h.symm, by simp⟩
  | u :: r, a, z, h => by
    obtain ⟨h1, h2⟩ := h
    obtain ⟨i1, i2⟩ := contig_step h2
    refine ⟨by rw [endAt_lt (by simp)]; exact h1, ?_⟩
    intro j hj
    match j with
    | 0 =>
      have : endAt (u :: r) z (0 + 1) = endAt r z 0 := rfl
      rw [this, i1]; simp only [List.getElem_cons_zero]; omega
    | j + 1 =>
      have : endAt (u :: r) z (j + 1 + 1) = endAt r z (j + 1) := rfl
      rw [this]; simpa using i2 j (by simpa using hj)
/-- a piece of a unit alone -/
def pieceOf (u : Tri) : Tri := (kindS u.2.2, u.1, u.2.1)
/-- one unit more: kind, at, length -/
def pieceStep (out : List Tri) (u : Tri) : List Tri :=
  match out.getLast? with
  | some p => if kindS u.2.2 ≤ 3 ∧ p.1 = kindS u.2.2 then out.dropLast ++ [(p.1, p.2.1, p.2.2 + u.2.1)] else out ++ [pieceOf u]
  | none => out ++ [pieceOf u]
def piecesTo (l : List Tri) (k : Nat) : List Tri := (l.take k).foldl pieceStep []
theorem piecesTo_succ (l : List Tri) (k : Nat) (h : k < l.length) : piecesTo l (k + 1) = pieceStep (piecesTo l k) l[k] := by
  unfold piecesTo
  rw [List.take_succ_eq_append_getElem h, List.foldl_append]; rfl
theorem step_merge (out : List Tri) (p u : Tri) (h : kindS u.2.2 ≤ 3) (hk : p.1 = kindS u.2.2) : pieceStep (out ++ [p]) u = out ++ [(p.1, p.2.1, p.2.2 + u.2.1)] := by
  unfold pieceStep; rw [List.getLast?_concat]; dsimp only; rw [if_pos ⟨h, hk⟩, List.dropLast_concat]
theorem step_new (out : List Tri) (p u : Tri) (h : ¬ (kindS u.2.2 ≤ 3 ∧ p.1 = kindS u.2.2)) : pieceStep (out ++ [p]) u = (out ++ [p]) ++ [pieceOf u] := by
  unfold pieceStep; rw [List.getLast?_concat]; dsimp only; rw [if_neg h]
theorem step_nil (u : Tri) : pieceStep [] u = [pieceOf u] := rfl
theorem step_len (out : List Tri) (u : Tri) : (pieceStep out u).length ≤ out.length + 1 := by
  rcases List.eq_nil_or_concat out with rfl | ⟨o, p, rfl⟩
  · simp [step_nil]
  · by_cases h : kindS u.2.2 ≤ 3 ∧ p.1 = kindS u.2.2
    · rw [List.concat_eq_append, step_merge _ _ _ h.1 h.2]; simp
    · rw [List.concat_eq_append, step_new _ _ _ h]; simp
theorem pieces_len (l : List Tri) : ∀ k, (piecesTo l k).length ≤ k
  | 0 => by simp [piecesTo]
  | k + 1 => by
    by_cases h : k < l.length
    · rw [piecesTo_succ l k h]; have := step_len (piecesTo l k) l[k]; have := pieces_len l k; omega
    · have : piecesTo l (k + 1) = piecesTo l k := by unfold piecesTo; rw [List.take_of_length_le (by omega), List.take_of_length_le (by omega)]
      rw [this]; have := pieces_len l k; omega
theorem kind_bd (c : Int) : 1 ≤ kindS c ∧ kindS c ≤ 5 := by unfold kindS; (repeat' split) <;> omega
/-- the last piece ends where the next unit begins -/
theorem pieces_last {l : List Tri} {z : Int} (hc : contig l 0 z) (hpos : ∀ u ∈ l, 0 ≤ u.1 ∧ 0 ≤ u.2.1) : ∀ k, k ≤ l.length → ∀ (o : List Tri) (p : Tri), piecesTo l k = o ++ [p] → 0 ≤ p.2.1 ∧ 0 ≤ p.2.2 ∧ p.2.1 + p.2.2 = endAt l z k
  | 0, _, o, p, h => by simp [piecesTo] at h
  | k + 1, hk, o, p, h => by
    have hlt : k < l.length := by omega
    have hn := (contig_step hc).2 k hlt
    have hu := hpos _ (List.getElem_mem hlt)
    rw [piecesTo_succ l k hlt] at h
    rw [hn]
    have hs : endAt l z k = l[k].1 := endAt_lt hlt
    rcases List.eq_nil_or_concat (piecesTo l k) with e | ⟨o', p', e⟩
    · rw [e, step_nil] at h
      have : p = pieceOf l[k] := by
        have := congrArg List.getLast? h
        simpa using this.symm
      subst this
      exact ⟨hu.1, hu.2, rfl⟩
    · rw [List.concat_eq_append] at e
      have ih := pieces_last hc hpos k (by omega) o' p' e
      rw [e] at h
      by_cases hm : kindS (l[k]).2.2 ≤ 3 ∧ p'.1 = kindS (l[k]).2.2
      · rw [step_merge _ _ _ hm.1 hm.2] at h
        have : p = (p'.1, p'.2.1, p'.2.2 + (l[k]).2.1) := by
          have := congrArg List.getLast? h
          simpa using this.symm
        subst this
        exact ⟨ih.1, by dsimp only; have := ih.2.1; omega, by dsimp only; have := ih.2.2; omega⟩
      · rw [step_new _ _ _ hm] at h
        have : p = pieceOf l[k] := by
          have := congrArg List.getLast? h
          simpa using this.symm
        subst this
        exact ⟨hu.1, hu.2, rfl⟩
end Go.Proofs.Ytebmdabdckebhaa
