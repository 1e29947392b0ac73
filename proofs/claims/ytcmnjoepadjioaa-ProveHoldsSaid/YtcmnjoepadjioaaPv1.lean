/- What follows, plainly: claims, worlds, what follows from what comes of what; what has no argument has a world against it. No program in sight. -/
import Derived.Test.YtcmnjoepadjioaaRd
namespace Go.Proofs.Ytcmnjoepadjioaa
open Go.RowKit

structure Clm where
  so : Bool
  a : Int
  b : Int
theorem clm_ext {x y : Clm} (h1 : x.so = y.so) (h2 : x.a = y.a) (h3 : x.b = y.b) : x = y := by cases x; cases y; simp_all
instance : DecidableEq Clm := fun x y => if h : x.so = y.so ∧ x.a = y.a ∧ x.b = y.b then isTrue (clm_ext h.1 h.2.1 h.2.2) else isFalse (fun e => h (by subst e; exact ⟨rfl, rfl, rfl⟩))
def litOk (x : Int) : Prop := x ≠ 0 ∧ -6 ≤ x ∧ x ≤ 6
instance (x : Int) : Decidable (litOk x) := by unfold litOk; infer_instance
def Clm.ok (c : Clm) : Prop := litOk c.a ∧ litOk c.b
instance (c : Clm) : Decidable c.ok := by unfold Clm.ok; infer_instance
/-- is an individual what a literal says? -/
def isL (w : Nat) (x : Int) : Bool := if x < 0 then !w.testBit ((-x).toNat - 1) else w.testBit (x.toNat - 1)
theorem isL_neg {w : Nat} {x : Int} (h : litOk x) : isL w (-x) = !isL w x := by
  unfold isL
  unfold litOk at h
  by_cases hx : x < 0
  · rw [if_pos hx, if_neg (by omega)]; simp
  · rw [if_neg hx, if_pos (by omega)]; simp
/-- does a claim hold of one? -/
def holds1 (w : Nat) (c : Clm) : Bool := isL w c.a && (isL w c.b == c.so)
def holdsC (l : List Nat) (c : Clm) : Bool := l.any (fun w => holds1 w c) == c.so
theorem holdsC_all {l : List Nat} {a b : Int} : holdsC l ⟨false, a, b⟩ = true ↔ ∀ w ∈ l, isL w a = true → isL w b = true := by
  unfold holdsC holds1
  simp only [beq_false, Bool.not_eq_true']
  rw [List.any_eq_false]
  constructor
  · intro h w hw ha
    have := h w hw
    simp only [ha, Bool.true_and] at this
    simpa using this
  · intro h w hw
    have := h w hw
    cases ha : isL w a <;> simp_all
theorem holdsC_some {l : List Nat} {a b : Int} : holdsC l ⟨true, a, b⟩ = true ↔ ∃ w ∈ l, isL w a = true ∧ isL w b = true := by
  unfold holdsC holds1
  simp [List.any_eq_true]

section
variable (le : Int → Int → Prop)
structure Order : Prop where
  refl : ∀ x, litOk x → le x x
  trans : ∀ x y z, le x y → le y z → le x z
  contra : ∀ x y, le x y → le (-y) (-x)
  void : ∀ x y, le x (-x) → litOk y → le x y
  ok : ∀ x y, le x y → litOk x ∧ litOk y
structure Part1 (U : Int → Prop) : Prop where
  up : ∀ x y, U x → le x y → U y
  one : ∀ x, U x → ¬ U (-x)
  ok : ∀ x, U x → litOk x
variable {le}
theorem lit_neg {x : Int} (h : litOk x) : litOk (-x) := by unfold litOk at h ⊢; omega
theorem Part1.add {U : Int → Prop} (O : Order le) (h : Part1 le U) {n : Int} (_hn : litOk n) (h1 : ¬ U (-n)) (h2 : ¬ le n (-n)) : Part1 le (fun x => U x ∨ le n x) where
  up x y hx hl := by
    rcases hx with hx | hx
    · exact Or.inl (h.up x y hx hl)
    · exact Or.inr (O.trans _ _ _ hx hl)
  one x hx hx' := by
    rcases hx with hx | hx <;> rcases hx' with hx' | hx'
    · exact h.one x hx hx'
    · have := O.contra _ _ hx'
      rw [Int.neg_neg] at this
      exact h1 (h.up _ _ hx this)
    · have := O.contra _ _ hx
      exact h1 (h.up _ _ hx' this)
    · have := O.contra _ _ hx'
      rw [Int.neg_neg] at this
      exact h2 (O.trans _ _ _ hx this)
  ok x hx := by
    rcases hx with hx | hx
    · exact h.ok x hx
    · exact (O.ok _ _ hx).2
theorem Part1.settle {U : Int → Prop} (O : Order le) (h : Part1 le U) (hne : ∃ x, U x) {n : Int} (hn : litOk n) : ∃ U', Part1 le U' ∧ (∀ x, U x → U' x) ∧ (U' n ∨ U' (-n)) := by
  by_cases h1 : U n
  · exact ⟨U, h, fun _ h => h, Or.inl h1⟩
  · by_cases h2 : U (-n)
    · exact ⟨U, h, fun _ h => h, Or.inr h2⟩
    · have hm : litOk (-n) := lit_neg hn
      by_cases h3 : le n (-n)
      · refine ⟨_, h.add O hm (by rw [Int.neg_neg]; exact h1) (fun h4 => ?_), fun _ hx => Or.inl hx, Or.inr (Or.inr (O.refl _ hm))⟩
        -- all is under both
        rw [Int.neg_neg] at h4
        obtain ⟨x, hx⟩ := hne
        have hxo := h.ok x hx
        have h5 := O.contra _ _ (O.void (-n) (-x) (by rw [Int.neg_neg]; exact h4) (lit_neg hxo))
        rw [Int.neg_neg, Int.neg_neg] at h5
        exact h1 (h.up _ _ hx h5)
      · exact ⟨_, h.add O hn h2 h3, fun _ hx => Or.inl hx, Or.inl (Or.inr (O.refl _ hn))⟩
theorem Part1.all {U : Int → Prop} (O : Order le) (h : Part1 le U) (hne : ∃ x, U x) : ∃ U', Part1 le U' ∧ (∀ x, U x → U' x) ∧ ∀ n, litOk n → U' n ∨ U' (-n) := by
  have ne : ∀ {V : Int → Prop}, (∀ x, U x → V x) → ∃ x, V x := fun hv => by obtain ⟨x, hx⟩ := hne; exact ⟨x, hv x hx⟩
  obtain ⟨U1, p1, s1, d1⟩ := h.settle O hne (n := 1) (by decide)
  obtain ⟨U2, p2, s2, d2⟩ := p1.settle O (ne s1) (n := 2) (by decide)
  have t2 : ∀ x, U x → U2 x := fun x hx => s2 x (s1 x hx)
  obtain ⟨U3, p3, s3, d3⟩ := p2.settle O (ne t2) (n := 3) (by decide)
  have t3 : ∀ x, U x → U3 x := fun x hx => s3 x (t2 x hx)
  obtain ⟨U4, p4, s4, d4⟩ := p3.settle O (ne t3) (n := 4) (by decide)
  have t4 : ∀ x, U x → U4 x := fun x hx => s4 x (t3 x hx)
  obtain ⟨U5, p5, s5, d5⟩ := p4.settle O (ne t4) (n := 5) (by decide)
  have t5 : ∀ x, U x → U5 x := fun x hx => s5 x (t4 x hx)
  obtain ⟨U6, p6, s6, d6⟩ := p5.settle O (ne t5) (n := 6) (by decide)
  refine ⟨U6, p6, fun x hx => s6 x (t5 x hx), ?_⟩
  have e1 : U6 1 ∨ U6 (-1) := d1.imp (fun h => s6 _ (s5 _ (s4 _ (s3 _ (s2 _ h))))) (fun h => s6 _ (s5 _ (s4 _ (s3 _ (s2 _ h)))))
  have e2 : U6 2 ∨ U6 (-2) := d2.imp (fun h => s6 _ (s5 _ (s4 _ (s3 _ h)))) (fun h => s6 _ (s5 _ (s4 _ (s3 _ h))))
  have e3 : U6 3 ∨ U6 (-3) := d3.imp (fun h => s6 _ (s5 _ (s4 _ h))) (fun h => s6 _ (s5 _ (s4 _ h)))
  have e4 : U6 4 ∨ U6 (-4) := d4.imp (fun h => s6 _ (s5 _ h)) (fun h => s6 _ (s5 _ h))
  have e5 : U6 5 ∨ U6 (-5) := d5.imp (fun h => s6 _ h) (fun h => s6 _ h)
  intro n hn
  unfold litOk at hn
  have : n = 1 ∨ n = 2 ∨ n = 3 ∨ n = 4 ∨ n = 5 ∨ n = 6 ∨ n = -1 ∨ n = -2 ∨ n = -3 ∨ n = -4 ∨ n = -5 ∨ n = -6 := by omega
  rcases this with rfl | rfl | rfl | rfl | rfl | rfl | rfl | rfl | rfl | rfl | rfl | rfl
  · exact e1
  · exact e2
  · exact e3
  · exact e4
  · exact e5
  · exact d6
  · exact e1.symm
  · exact e2.symm
  · exact e3.symm
  · exact e4.symm
  · exact e5.symm
  · exact d6.symm
theorem some_world (b1 b2 b3 b4 b5 b6 : Bool) : ∃ w, w < 64 ∧ Nat.testBit w 0 = b1 ∧ Nat.testBit w 1 = b2 ∧ Nat.testBit w 2 = b3 ∧ Nat.testBit w 3 = b4 ∧ Nat.testBit w 4 = b5 ∧ Nat.testBit w 5 = b6 := by
  refine ⟨b1.toNat + 2 * b2.toNat + 4 * b3.toNat + 8 * b4.toNat + 16 * b5.toNat + 32 * b6.toNat, ?_⟩
  cases b1 <;> cases b2 <;> cases b3 <;> cases b4 <;> cases b5 <;> cases b6 <;> decide
/-- all that goes together is somebody -/
theorem Part1.who {U : Int → Prop} (O : Order le) (h : Part1 le U) (hne : ∃ x, U x) : ∃ w, w < 64 ∧ (∀ x, U x → isL w x = true) ∧ ∀ x y, le x y → isL w x = true → isL w y = true := by
  classical
  obtain ⟨V, p, s, d⟩ := h.all O hne
  obtain ⟨w, hw, b1, b2, b3, b4, b5, b6⟩ := some_world (decide (V 1)) (decide (V 2)) (decide (V 3)) (decide (V 4)) (decide (V 5)) (decide (V 6))
  have key : ∀ x, litOk x → (isL w x = true ↔ V x) := by
    have pos : ∀ n : Int, (n = 1 ∨ n = 2 ∨ n = 3 ∨ n = 4 ∨ n = 5 ∨ n = 6) → (isL w n = true ↔ V n) := by
      intro n hn
      rcases hn with rfl | rfl | rfl | rfl | rfl | rfl
      · show Nat.testBit w 0 = true ↔ _; rw [b1]; simp
      · show Nat.testBit w 1 = true ↔ _; rw [b2]; simp
      · show Nat.testBit w 2 = true ↔ _; rw [b3]; simp
      · show Nat.testBit w 3 = true ↔ _; rw [b4]; simp
      · show Nat.testBit w 4 = true ↔ _; rw [b5]; simp
      · show Nat.testBit w 5 = true ↔ _; rw [b6]; simp
    intro x hx
    by_cases hp : 0 < x
    · exact pos x (by unfold litOk at hx; omega)
    · have hn := pos (-x) (by unfold litOk at hx; omega)
      have e := isL_neg (w := w) (x := -x) (lit_neg hx)
      rw [Int.neg_neg] at e
      rw [e]
      constructor
      · intro h'
        rcases d x hx with h1 | h1
        · exact h1
        · rw [hn.2 h1] at h'; cases h'
      · intro h'
        cases hc : isL w (-x) with
        | false => rfl
        | true => exact absurd (hn.1 hc) (p.one x h')
  refine ⟨w, hw, fun x hx => (key x (h.ok x hx)).2 (s x hx), fun x y hl hx => ?_⟩
  obtain ⟨ox, oy⟩ := O.ok x y hl
  exact (key y oy).2 (p.up x y ((key x ox).1 hx) hl)
/-- two literals that go together -/
theorem two_who (O : Order le) {a b : Int} (ha : litOk a) (hb : litOk b) (h : ¬ le a (-b)) : ∃ w, w < 64 ∧ isL w a = true ∧ isL w b = true ∧ ∀ x y, le x y → isL w x = true → isL w y = true := by
  by_cases h1 : le a (-a)
  · exact absurd (O.void a (-b) h1 (lit_neg hb)) h
  · by_cases h2 : le b (-b)
    · have := O.contra _ _ (O.void b (-a) h2 (lit_neg ha))
      rw [Int.neg_neg] at this
      exact absurd this h
    · have p0 : Part1 le (fun x => le a x) := ⟨fun x y hx hl => O.trans _ _ _ hx hl, fun x hx hx' => h1 (by
          have := O.contra _ _ hx'
          rw [Int.neg_neg] at this
          exact O.trans _ _ _ hx this), fun x hx => (O.ok _ _ hx).2⟩
      have p1 := p0.add O hb h h2
      obtain ⟨w, hw, h3, h4⟩ := p1.who O ⟨a, Or.inl (O.refl a ha)⟩
      exact ⟨w, hw, h3 a (Or.inl (O.refl a ha)), h3 b (Or.inr (O.refl b hb)), h4⟩
/-- three -/
theorem three_who (O : Order le) {a b c : Int} (ha : litOk a) (hb : litOk b) (hc : litOk c) (h : ¬ le a (-b)) (h2 : ¬ le a (-c)) (h3 : ¬ le b (-c)) (h4 : ¬ le c (-c)) : ∃ w, w < 64 ∧ isL w a = true ∧ isL w b = true ∧ isL w c = true ∧ ∀ x y, le x y → isL w x = true → isL w y = true := by
  have h1 : ¬ le a (-a) := fun h1 => h (O.void a (-b) h1 (lit_neg hb))
  have hb1 : ¬ le b (-b) := fun h1 => h (by
    have := O.contra _ _ (O.void b (-a) h1 (lit_neg ha))
    rw [Int.neg_neg] at this
    exact this)
  have p0 : Part1 le (fun x => le a x) := ⟨fun x y hx hl => O.trans _ _ _ hx hl, fun x hx hx' => h1 (by
      have := O.contra _ _ hx'
      rw [Int.neg_neg] at this
      exact O.trans _ _ _ hx this), fun x hx => (O.ok _ _ hx).2⟩
  have p1 := p0.add O hb h hb1
  have p2 := p1.add O hc (fun hx => hx.elim h2 h3) h4
  obtain ⟨w, hw, q, r⟩ := p2.who O ⟨a, Or.inl (Or.inl (O.refl a ha))⟩
  exact ⟨w, hw, q a (Or.inl (Or.inl (O.refl a ha))), q b (Or.inl (Or.inr (O.refl b hb))), q c (Or.inr (O.refl c hc)), r⟩
end
end Go.Proofs.Ytcmnjoepadjioaa
