/- Rows of structs of three integers: elements read, rows kept. Nothing of the program is named here. -/
import Derived.Test.YtcmnjoepadjioaaStr
import Derived.Lib.OthersKept
namespace Go.Proofs.Ytcmnjoepadjioaa
open Go.RowKit

/-- the cells of rows of three integers -/
def unitCells (l : List (Int × Int × Int)) : List Value := l.flatMap fun u => [.int .i64 u.1, .int .i64 u.2.1, .int .i64 u.2.2]
theorem unitCells_len (l : List (Int × Int × Int)) : (unitCells l).length = l.length * 3 := by
  induction l with
  | nil => rfl
  | cons u l ih =>
    have e : unitCells (u :: l) = [.int .i64 u.1, .int .i64 u.2.1, .int .i64 u.2.2] ++ unitCells l := rfl
    rw [e, List.length_append, ih]; simp; omega
theorem unitCells_get (l : List (Int × Int × Int)) (k : Nat) (hk : k < l.length) :
    (unitCells l)[k * 3]? = some (.int .i64 (l[k]'hk).1) ∧ (unitCells l)[k * 3 + 1]? = some (.int .i64 (l[k]'hk).2.1) ∧ (unitCells l)[k * 3 + 2]? = some (.int .i64 (l[k]'hk).2.2) := by
  induction l generalizing k with
  | nil => simp at hk
  | cons u l ih =>
    match k with
    | 0 => simp [unitCells]
    | k + 1 =>
      have h := ih k (by simpa using hk)
      have e : unitCells (u :: l) = [.int .i64 u.1, .int .i64 u.2.1, .int .i64 u.2.2] ++ unitCells l := rfl
      rw [e]
      have q : ∀ j, ([Value.int .i64 u.1, .int .i64 u.2.1, .int .i64 u.2.2] ++ unitCells l)[(k + 1) * 3 + j]? = (unitCells l)[k * 3 + j]? := by
        intro j
        rw [List.getElem?_append_right (by simp; omega)]
        congr 1; simp; omega
      have q0 := q 0; simp only [Nat.add_zero] at q0
      rw [q0, q 1, q 2]
      exact h
/-- an element of an owned row -/
theorem row3_at {w : World} {B e n c k : Nat} {A : Option Addr} {l : List (Int × Int × Int)} (h : w.ownsRow B e 3 (.slice A n c) l.length (unitCells l)) (hk : k < l.length) :
    ∃ g, A = some ⟨g, 0, none⟩ ∧ n = l.length ∧ B ≤ g ∧ g < w.heap.size ∧ w.cell? ⟨g, k * 3, none⟩ = some (.int .i64 (l[k]'hk).1) ∧ w.cell? ⟨g, k * 3 + 1, none⟩ = some (.int .i64 (l[k]'hk).2.1) ∧ w.cell? ⟨g, k * 3 + 2, none⟩ = some (.int .i64 (l[k]'hk).2.2) := by
  rcases h.2 with ⟨_, h0⟩ | ⟨g, cap, cur, hv, hB, hh, hn, hc, hs, ht⟩
  · omega
  · simp only [Value.slice.injEq] at hv
    obtain ⟨rfl, rfl, rfl⟩ := hv
    obtain ⟨u0, u1, u2⟩ := unitCells_get l k hk
    have hb : Blk w g e cur := hh
    have get : ∀ j v, (unitCells l)[j]? = some v → w.cell? ⟨g, j, none⟩ = some v := by
      intro j v hj
      rw [hb.cell]
      rw [← ht] at hj
      rw [List.getElem?_take] at hj
      split at hj
      · rw [← hj, Array.getElem?_toList]
      · cases hj
    exact ⟨g, rfl, rfl, hB, hb.lt, get _ _ u0, get _ _ u1, get _ _ u2⟩
theorem own_slice {w : World} {B e s n : Nat} {v : Value} {xs : List Value} (h : w.ownsRow B e s v n xs) : ∃ A c, v = .slice A n c := by
  rcases h.2 with ⟨hv, h0⟩ | ⟨g, cap, cur, hv, _⟩
  · exact ⟨none, 0, by rw [hv, h0]⟩
  · exact ⟨_, _, hv⟩
/-- a row of another type is kept -/
theorem own_others {w w' : World} {B e e' b s n : Nat} {v : Value} {xs : List Value} (h : w.ownsRow B e s v n xs) (hk : Lib.OthersKept e' (some b) w w') (hne : e ≠ e') (hb : v.ownBlock ≠ some b) : w'.ownsRow B e s v n xs := by
  refine ⟨h.1, ?_⟩
  rcases h.2 with h2 | ⟨g, cap, cur, hv, hB, hh, hr⟩
  · exact .inl h2
  · exact .inr ⟨g, cap, cur, hv, hB, hk g _ hh (by rw [hv] at hb; simpa [Value.ownBlock] using hb) (by intro c fz hc; simp only [Obj.cells.injEq] at hc; exact hne hc.2.1), hr⟩
theorem own_below {w w' : World} {B e s n K : Nat} {v : Value} {xs : List Value} (h : w.ownsRow B e s v n xs) (hb : Below K w w') (hlt : ∀ g, v.ownBlock = some g → g < K) : w'.ownsRow B e s v n xs := by
  refine ⟨h.1, ?_⟩
  rcases h.2 with h2 | ⟨g, cap, cur, hv, hB, hh, hr⟩
  · exact .inl h2
  · exact .inr ⟨g, cap, cur, hv, hB, (hb.block g (hlt g (by rw [hv]; rfl))).trans hh, hr⟩
theorem own_lt {w : World} {B e s n : Nat} {v : Value} {xs : List Value} (h : w.ownsRow B e s v n xs) : ∀ g, v.ownBlock = some g → g < w.heap.size := by
  intro g hg
  rcases h.2 with ⟨rfl, _⟩ | ⟨g', cap, cur, rfl, _, hh, _⟩
  · simp [Value.ownBlock] at hg
  · simp [Value.ownBlock] at hg; subst hg; exact (Array.getElem?_eq_some_iff.1 hh).1
theorem own_below_all {w w' : World} {B e s n : Nat} {v : Value} {xs : List Value} (h : w.ownsRow B e s v n xs) (hb : Below w.heap.size w w') : w'.ownsRow B e s v n xs :=
  own_below h hb (own_lt h)
theorem unitCells_append (l r : List (Int × Int × Int)) : unitCells (l ++ r) = unitCells l ++ unitCells r := by simp [unitCells]
theorem unitCells_set (o : List (Int × Int × Int)) (a b c x : Int) : (unitCells (o ++ [(a, b, c)])).set (o.length * 3 + 2) (.int .i64 x) = unitCells (o ++ [(a, b, x)]) := by
  rw [unitCells_append, unitCells_append, List.set_append, if_neg (by rw [unitCells_len]; omega)]
  congr 1
  rw [unitCells_len]
  have : o.length * 3 + 2 - o.length * 3 = 2 := by omega
  rw [this]; rfl
/-- rows of two types lie in two blocks -/
theorem own_ne {w : World} {B B' e e' s s' n n' g g' c c' : Nat} {xs xs' : List Value} (h : w.ownsRow B e s (.slice (some ⟨g, 0, none⟩) n c) n xs) (h' : w.ownsRow B' e' s' (.slice (some ⟨g', 0, none⟩) n' c') n' xs') (hne : e ≠ e') : g ≠ g' := by
  rintro rfl
  obtain ⟨c1, f1, h1⟩ := (show ∃ c fz, w.heap[g]? = some (.cells c e fz) from by
    rcases h.2 with ⟨hv, _⟩ | ⟨g1, cap, cur, hv, _, hh, _⟩
    · simp at hv
    · simp only [Value.slice.injEq, Option.some.injEq, Addr.mk.injEq] at hv; obtain ⟨⟨rfl, _⟩, _⟩ := hv; exact ⟨_, _, hh⟩)
  obtain ⟨c2, f2, h2⟩ := (show ∃ c fz, w.heap[g]? = some (.cells c e' fz) from by
    rcases h'.2 with ⟨hv, _⟩ | ⟨g1, cap, cur, hv, _, hh, _⟩
    · simp at hv
    · simp only [Value.slice.injEq, Option.some.injEq, Addr.mk.injEq] at hv; obtain ⟨⟨rfl, _⟩, _⟩ := hv; exact ⟨_, _, hh⟩)
  rw [h1] at h2; simp only [Option.some.injEq, Obj.cells.injEq] at h2; exact hne h2.2.1
end Go.Proofs.Ytcmnjoepadjioaa
