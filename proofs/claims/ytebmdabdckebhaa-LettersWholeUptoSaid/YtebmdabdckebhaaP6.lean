/- Letters, plainly: pieces lie side by side, no two alike; a fold's pieces are of the same kinds. -/
import Derived.Test.YtebmdabdckebhaaP5
namespace Go.Proofs.Ytebmdabdckebhaa
open Go.RowKit

theorem pieceStep_cases (out : List Tri) (u : Tri) : (∃ o p, out = o ++ [p] ∧ kindS u.2.2 ≤ 3 ∧ p.1 = kindS u.2.2 ∧ pieceStep out u = o ++ [(p.1, p.2.1, p.2.2 + u.2.1)]) ∨
    (pieceStep out u = out ++ [pieceOf u] ∧ ∀ o p, out = o ++ [p] → ¬ (kindS u.2.2 ≤ 3 ∧ p.1 = kindS u.2.2)) := by
  rcases List.eq_nil_or_concat out with rfl | ⟨o, p, rfl⟩
  · exact .inr ⟨rfl, fun o p h => by simp at h⟩
  · rw [List.concat_eq_append]
    by_cases h : kindS u.2.2 ≤ 3 ∧ p.1 = kindS u.2.2
    · exact .inl ⟨o, p, rfl, h.1, h.2, step_merge _ _ _ h.1 h.2⟩
    · refine .inr ⟨step_new _ _ _ h, fun o' p' e => ?_⟩
      have : p = p' := by have := congrArg List.getLast? e; simpa using this
      subst this; exact h
/-- all pieces: lengths above 0, places that add up to z, no two alike side by side -/
def Good (l : List Tri) (z : Int) : Prop :=
  (∀ i (h : i < l.length), 1 ≤ (l[i]'h).2.2 ∧ (i = 0 → (l[i]'h).2.1 = 0)) ∧
  (∀ i (h : i + 1 < l.length), (l[i + 1]'h).2.1 = (l[i]'(by omega)).2.1 + (l[i]'(by omega)).2.2 ∧ ¬ ((l[i + 1]'h).1 = (l[i]'(by omega)).1 ∧ (l[i + 1]'h).1 < 4)) ∧
  (∀ o p, l = o ++ [p] → p.2.1 + p.2.2 = z) ∧ (l = [] → z = 0)
theorem good_new {l : List Tri} {z : Int} (h : Good l z) (p : Tri) (hz : p.2.1 = z) (h1 : 1 ≤ p.2.2) (hk : ∀ o q, l = o ++ [q] → ¬ (p.1 = q.1 ∧ p.1 < 4)) : Good (l ++ [p]) (z + p.2.2) := by
  obtain ⟨g1, g2, g3, g4⟩ := h
  refine ⟨fun i hi => ?_, fun i hi => ?_, fun o q e => ?_, fun e => by simp at e⟩
  · by_cases hl : i < l.length
    · rw [List.getElem_append_left hl]; exact g1 i hl
    · have e : i = l.length := by simp at hi; omega
      subst e
      simp only [List.getElem_concat_length]
      refine ⟨h1, fun h0 => ?_⟩
      rw [hz]; exact g4 (List.eq_nil_of_length_eq_zero h0)
  · by_cases hl : i + 1 < l.length
    · rw [List.getElem_append_left hl, List.getElem_append_left (by omega)]; exact g2 i hl
    · have e : i + 1 = l.length := by simp at hi; omega
      obtain ⟨o, q, rfl⟩ : ∃ o q, l = o ++ [q] := by
        rcases List.eq_nil_or_concat l with rfl | ⟨o, q, rfl⟩
        · simp at e
        · exact ⟨o, q, List.concat_eq_append⟩
      have ei : i = o.length := by simp at e; omega
      subst ei
      have e1 : ((o ++ [q]) ++ [p])[o.length + 1]'hi = p := by simp
      have e2 : ((o ++ [q]) ++ [p])[o.length]'(by omega) = q := by simp
      rw [e1, e2, hz, ← g3 o q rfl]
      exact ⟨rfl, hk o q rfl⟩
  · have : p = q := by have := congrArg List.getLast? e; simpa using this
    subst this; omega
theorem good_grow {o : List Tri} {p : Tri} {z n : Int} (h : Good (o ++ [p]) z) (hn : 0 ≤ n) : Good (o ++ [(p.1, p.2.1, p.2.2 + n)]) (z + n) := by
  obtain ⟨g1, g2, g3, g4⟩ := h
  refine ⟨fun i hi => ?_, fun i hi => ?_, fun o' q e => ?_, fun e => by simp at e⟩
  · have g := g1 i (by simpa using hi)
    by_cases hl : i < o.length
    · rw [List.getElem_append_left hl] at g ⊢; exact g
    · have e : i = o.length := by simp at hi; omega
      subst e
      simp only [List.getElem_concat_length] at g ⊢
      exact ⟨by omega, g.2⟩
  · have g := g2 i (by simpa using hi)
    by_cases hl : i + 1 < o.length
    · rw [List.getElem_append_left hl, List.getElem_append_left (by omega)] at g ⊢; exact g
    · have e : i + 1 = o.length := by simp at hi; omega
      have e1 : (o ++ [p])[i + 1]'(by simpa using hi) = p := by simp [e]
      have e2 : (o ++ [(p.1, p.2.1, p.2.2 + n)])[i + 1]'hi = (p.1, p.2.1, p.2.2 + n) := by simp [e]
      rw [e1] at g; rw [e2]
      rw [List.getElem_append_left (by omega)] at g ⊢
      exact g
  · have : q = (p.1, p.2.1, p.2.2 + n) := by have := congrArg List.getLast? e; simpa using this.symm
    subst this
    have := g3 o p rfl; dsimp only; omega
theorem pieces_good {l : List Tri} {z : Int} (hc : contig l 0 z) (h1 : ∀ u ∈ l, 1 ≤ u.2.1) : ∀ k, k ≤ l.length → Good (piecesTo l k) (endAt l z k)
  | 0, _ => by
    rw [(contig_step hc).1]
    exact ⟨fun i h => by simp [piecesTo] at h, fun i h => by simp [piecesTo] at h, fun o p e => by simp [piecesTo] at e, fun _ => rfl⟩
  | k + 1, hk => by
    have hlt : k < l.length := by omega
    have ih := pieces_good hc h1 k (by omega)
    have hn := (contig_step hc).2 k hlt
    have hu := h1 _ (List.getElem_mem hlt)
    have hs : endAt l z k = l[k].1 := endAt_lt hlt
    rw [piecesTo_succ l k hlt, hn, ← hs]
    rcases pieceStep_cases (piecesTo l k) l[k] with ⟨o, p, e, h3, h4, he⟩ | ⟨he, hno⟩
    · rw [he]; rw [e] at ih; exact good_grow ih (by omega)
    · rw [he]
      refine good_new ih (pieceOf l[k]) hs.symm hu (fun o q e hh => hno o q e ⟨?_, hh.1.symm⟩)
      have : (pieceOf l[k]).1 = kindS (l[k]).2.2 := rfl
      rw [this] at hh; omega
/-- the kinds of pieces hang on the kinds of units alone -/
theorem pieces_kinds (l l' : List Tri) (hl : l.length = l'.length) (hk : ∀ i (h : i < l.length), kindS (l[i]'h).2.2 = kindS (l'[i]'(by omega)).2.2) : ∀ k, k ≤ l.length → (piecesTo l k).map (·.1) = (piecesTo l' k).map (·.1)
  | 0, _ => rfl
  | k + 1, h => by
    have hlt : k < l.length := by omega
    have ih := pieces_kinds l l' hl hk k (by omega)
    rw [piecesTo_succ l k hlt, piecesTo_succ l' k (by omega)]
    have e := hk k hlt
    have last : ∀ (a b : List Tri), a.map (·.1) = b.map (·.1) → ∀ o p, a = o ++ [p] → ∃ o' p', b = o' ++ [p'] ∧ p'.1 = p.1 ∧ o'.map (·.1) = o.map (·.1) := by
      rintro a b hab o p rfl
      rcases List.eq_nil_or_concat b with rfl | ⟨o', p', rfl⟩
      · simp at hab
      · rw [List.concat_eq_append] at hab ⊢
        rw [List.map_append, List.map_append] at hab
        have := List.append_inj' hab rfl
        simp at this
        exact ⟨o', p', rfl, this.2.symm, this.1.symm⟩
    rcases pieceStep_cases (piecesTo l k) l[k] with ⟨o, p, e1, h3, h4, he⟩ | ⟨he, hno⟩
    · obtain ⟨o', p', e2, hp, ho⟩ := last _ _ ih o p e1
      rw [he, e2, step_merge _ _ _ (by rw [← e]; exact h3) (by rw [hp, ← e]; exact h4)]
      simp [ho, hp]
    · rcases pieceStep_cases (piecesTo l' k) (l'[k]'(by omega)) with ⟨o', p', e2, h3, h4, he'⟩ | ⟨he', _⟩
      · obtain ⟨o, p, e1, hp, _⟩ := last _ _ ih.symm o' p' e2
        exact absurd ⟨by rw [e]; exact h3, by rw [hp, e]; exact h4⟩ (hno o p e1)
      · rw [he, he']
        simp only [List.map_append, ih, List.map_cons, List.map_nil, pieceOf, e]
/-- the units of a text and of its fold -/
theorem fold_kinds (s : ByteArray) : ∀ i (h : i < (unitsFrom s s.size 0).length), kindS ((unitsFrom s s.size 0)[i]'h).2.2 = kindS ((unitsFrom (foldB s) (foldB s).size 0)[i]'(by rw [units_fold_len]; exact h)).2.2 := by
  intro i h
  rw [units_fold_get s i h (by rw [units_fold_len]; exact h)]
  split
  · rfl
  · exact (kind_small _ (by omega)).symm
end Go.Proofs.Ytebmdabdckebhaa
