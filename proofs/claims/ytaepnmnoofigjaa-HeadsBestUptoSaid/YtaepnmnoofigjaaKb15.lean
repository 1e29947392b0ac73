/- Texts that the proof rests on, part 15: what each holds stands at its head. -/
import Derived.Test.YtaepnmnoofigjaaKb14

/- Flat trees by pieces: no flat tree is better than the tables. -/
namespace Go.Proofs.Ytaepnmnoofigjaa
/-- going up through nodes of some kind one comes from one to another -/
inductive Dsc (D : Nat → Prop) (u : Nat → Nat) : Nat → Nat → Prop
  | refl (v : Nat) : Dsc D u v v
  | step {v h : Nat} : D v → Dsc D u (u v) h → Dsc D u v h
theorem Dsc.mono {D D' : Nat → Prop} {u u' : Nat → Nat} {v h : Nat} (k : Dsc D u v h) (hD : ∀ v, D v → D' v) (hu : ∀ v, D v → u' v = u v) : Dsc D' u' v h := by
  induction k with
  | refl v => exact .refl v
  | step hv _ ih => exact .step (hD _ hv) (by rw [hu _ hv]; exact ih)
theorem Dsc.trans {D : Nat → Prop} {u : Nat → Nat} {a b c : Nat} (h : Dsc D u a b) (k : Dsc D u b c) : Dsc D u a c := by
  induction h with
  | refl v => exact k
  | step hv _ ih => exact .step hv (ih k)
theorem Dsc.up {D : Nat → Prop} {u : Nat → Nat} {a b : Nat} (h : Dsc D u a b) (hne : a ≠ b) : Dsc D u (u a) b := by
  cases h with
  | refl => exact absurd rfl hne
  | step _ k => exact k
theorem Dsc.of {D : Nat → Prop} {u : Nat → Nat} {a b : Nat} (h : Dsc D u a b) (hne : a ≠ b) : D a := by
  cases h with
  | refl => exact absurd rfl hne
  | step hv _ => exact hv
def Pos (v : Nat) : Prop := 0 < v
/-- the sum over what lies between -/
def sumR (f : Nat → Int) (a : Nat) : Nat → Int
  | 0 => 0
  | k + 1 => sumR f a k + f (a + k)
theorem sumR_add (f : Nat → Int) (a k : Nat) : ∀ m, sumR f a (k + m) = sumR f a k + sumR f (a + k) m
  | 0 => by simp [sumR]
  | m + 1 => by
    have := sumR_add f a k m
    rw [← Nat.add_assoc, sumR, sumR, this, Nat.add_assoc a k m]; omega
theorem sumR_congr {f g : Nat → Int} {a : Nat} : ∀ {k}, (∀ v, a ≤ v → v < a + k → f v = g v) → sumR f a k = sumR g a k
  | 0, _ => rfl
  | k + 1, h => by rw [sumR, sumR, sumR_congr fun v h1 h2 => h v h1 (by omega), h (a + k) (by omega) (by omega)]
theorem wtK_sumR (s : Nat → Nat → Int) (u : Nat → Nat) : ∀ k, wtK s u k = sumR (fun v => s (u v) v) 1 k
  | 0 => rfl
  | k + 1 => by rw [wtK_succ, wtK_sumR s u k, sumR, Nat.add_comm 1 k]
/-- tables: 0 open, 1 shut, 2 where open, 3 where shut -/
abbrev Tb := Nat → Nat → Nat → Int × Int
def NEV : Int := -1099511627776
/-- a piece is done -/
structure Dn (s : Nat → Nat → Int) (T : Tb) (i j : Nat) : Prop where
  oa : ∃ k : Nat, T 2 i j = ((k : Int), (k : Int)) ∧ i ≤ k ∧ k < j ∧ (∀ k', i ≤ k' → k' < j → (T 1 i k').1 + (T 1 (k' + 1) j).2 ≤ (T 1 i k).1 + (T 1 (k + 1) j).2) ∧ (T 0 i j).1 = (T 1 i k).1 + (T 1 (k + 1) j).2 + s i j ∧ (T 0 i j).2 = if 0 < i then (T 1 i k).1 + (T 1 (k + 1) j).2 + s j i else NEV
  s0 : ∃ k : Nat, (T 3 i j).1 = (k : Int) ∧ i < k ∧ k ≤ j ∧ (T 1 i j).1 = (T 0 i k).1 + (T 1 k j).1 ∧ ∀ k', i < k' → k' ≤ j → (T 0 i k').1 + (T 1 k' j).1 ≤ (T 1 i j).1
  s1 : ∃ k : Nat, (T 3 i j).2 = (k : Int) ∧ i ≤ k ∧ k < j ∧ (T 1 i j).2 = (T 1 i k).2 + (T 0 k j).2 ∧ ∀ k', i ≤ k' → k' < j → (T 1 i k').2 + (T 0 k' j).2 ≤ (T 1 i j).2
theorem Dn.congr {s : Nat → Nat → Int} {T T' : Tb} {i j : Nat} (h : Dn s T i j) (hij : i < j) (hT : ∀ t a b, i ≤ a → a ≤ b → b ≤ j → T' t a b = T t a b) : Dn s T' i j := by
  obtain ⟨⟨k, a1, a2, a3, a4, a5, a6⟩, ⟨k0, b1, b2, b3, b4, b5⟩, ⟨k1, c1, c2, c3, c4, c5⟩⟩ := h
  have e : ∀ t a b, i ≤ a → a ≤ b → b ≤ j → T' t a b = T t a b := hT
  refine ⟨⟨k, by rw [e 2 i j (by omega) (by omega) (by omega)]; exact a1, a2, a3, fun k' h1 h2 => ?_, ?_, ?_⟩, ⟨k0, ?_, b2, b3, ?_, fun k' h1 h2 => ?_⟩, ⟨k1, ?_, c2, c3, ?_, fun k' h1 h2 => ?_⟩⟩
  · rw [e 1 i k' (by omega) (by omega) (by omega), e 1 (k' + 1) j (by omega) (by omega) (by omega), e 1 i k (by omega) (by omega) (by omega), e 1 (k + 1) j (by omega) (by omega) (by omega)]; exact a4 k' h1 h2
  · rw [e 0 i j (by omega) (by omega) (by omega), e 1 i k (by omega) (by omega) (by omega), e 1 (k + 1) j (by omega) (by omega) (by omega)]; exact a5
  · rw [e 0 i j (by omega) (by omega) (by omega), e 1 i k (by omega) (by omega) (by omega), e 1 (k + 1) j (by omega) (by omega) (by omega)]; exact a6
  · rw [e 3 i j (by omega) (by omega) (by omega)]; exact b1
  · rw [e 1 i j (by omega) (by omega) (by omega), e 0 i k0 (by omega) (by omega) (by omega), e 1 k0 j (by omega) (by omega) (by omega)]; exact b4
  · rw [e 1 i j (by omega) (by omega) (by omega), e 0 i k' (by omega) (by omega) (by omega), e 1 k' j (by omega) (by omega) (by omega)]; exact b5 k' h1 h2
  · rw [e 3 i j (by omega) (by omega) (by omega)]; exact c1
  · rw [e 1 i j (by omega) (by omega) (by omega), e 1 i k1 (by omega) (by omega) (by omega), e 0 k1 j (by omega) (by omega) (by omega)]; exact c4
  · rw [e 1 i j (by omega) (by omega) (by omega), e 1 i k' (by omega) (by omega) (by omega), e 0 k' j (by omega) (by omega) (by omega)]; exact c5 k' h1 h2
/-- a flat tree -/
def FlatT (n : Nat) (u : Nat → Nat) : Prop := TreeF n u ∧ ∀ v, 0 < v → v < n → ∀ k, (v < k ∧ k < u v ∨ u v < k ∧ k < v) → Dsc Pos u k (u v)
theorem tree_anc {n : Nat} {u : Nat → Nat} (h : TreeF n u) : ∀ v, v < n → Dsc Pos u v 0 := by
  obtain ⟨h1, r, hr⟩ := h
  intro v
  generalize hm : r v = m
  induction m using Nat.strongRecOn generalizing v with
  | ind m ih =>
    intro hv
    rcases Nat.eq_zero_or_pos v with e | e
    · subst e; exact .refl _
    · exact .step e (ih (r (u v)) (by have := hr v e hv; omega) (u v) rfl (h1 v e hv))
theorem anc_rank {n : Nat} {u r : Nat → Nat} (h1 : ∀ v, 0 < v → v < n → u v < n) (hr : ∀ v, 0 < v → v < n → r (u v) < r v) {a b : Nat} (h : Dsc Pos u a b) : a < n → b < n ∧ (a = b ∨ r b < r a) := by
  induction h with
  | refl v => exact fun hv => ⟨hv, .inl rfl⟩
  | step hv _ ih =>
    intro hn
    obtain ⟨k1, k2⟩ := ih (h1 _ hv hn)
    have := hr _ hv hn
    refine ⟨k1, .inr ?_⟩
    rcases k2 with e | e
    · rw [← e]; exact this
    · omega
theorem anc_anti {n : Nat} {u : Nat → Nat} (h : TreeF n u) {a b : Nat} (ha : a < n) (h1 : Dsc Pos u a b) (h2 : Dsc Pos u b a) : a = b := by
  obtain ⟨hu, r, hr⟩ := h
  obtain ⟨hb, k1⟩ := anc_rank hu hr h1 ha
  obtain ⟨_, k2⟩ := anc_rank hu hr h2 hb
  rcases k1 with e | e
  · exact e
  · rcases k2 with e2 | e2
    · exact e2.symm
    · omega
theorem exists_max {p : Nat → Prop} : ∀ {j i : Nat}, i < j → p i → ∃ k, i ≤ k ∧ k < j ∧ p k ∧ ∀ v, k < v → v < j → ¬ p v
  | j + 1, i, hij, hp => by
    by_cases q : p j
    · exact ⟨j, by omega, by omega, q, fun v h1 h2 => by omega⟩
    · have hi : i < j := by
        rcases Nat.lt_or_ge i j with h | h
        · exact h
        · have : i = j := by omega
          subst this; exact absurd hp q
      obtain ⟨k, h1, h2, h3, h4⟩ := exists_max hi hp
      refine ⟨k, h1, by omega, h3, fun v h5 h6 => ?_⟩
      by_cases e : v = j
      · subst e; exact q
      · exact h4 v h5 (by omega)
/-- a piece with its head at the left end -/
def A0 (u : Nat → Nat) (i j : Nat) : Prop := ∀ v, i < v → v ≤ j → (i ≤ u v ∧ u v ≤ j) ∧ Dsc Pos u v i
/-- a piece with its head at the right end -/
def A1 (u : Nat → Nat) (i j : Nat) : Prop := ∀ v, i ≤ v → v < j → (i ≤ u v ∧ u v ≤ j) ∧ Dsc Pos u v j
theorem child0 {u : Nat → Nat} {i j : Nat} (h : A0 u i j) {v : Nat} (k : Dsc Pos u v i) : i < v → v ≤ j → ∃ c, i < c ∧ c ≤ j ∧ u c = i := by
  generalize hb : i = b at k
  induction k with
  | refl v => intro h1; omega
  | @step v b hv k ih =>
    subst hb
    intro h1 h2
    by_cases e : u v = i
    · exact ⟨v, h1, h2, e⟩
    · have := (h v h1 h2).1
      exact ih rfl (by omega) this.2
theorem child1 {u : Nat → Nat} {i j : Nat} (h : A1 u i j) {v : Nat} (k : Dsc Pos u v j) : i ≤ v → v < j → ∃ c, i ≤ c ∧ c < j ∧ u c = j := by
  generalize hb : j = b at k
  induction k with
  | refl v => intro h1 h2; omega
  | @step v b hv k ih =>
    subst hb
    intro h1 h2
    by_cases e : u v = j
    · exact ⟨v, h1, h2, e⟩
    · have := (h v h1 h2).1
      exact ih rfl this.1 (by omega)
theorem split_shut0 {n : Nat} {u : Nat → Nat} (hf : FlatT n u) {i j : Nat} (hij : i < j) (hj : j < n) (h : A0 u i j) : ∃ k, i < k ∧ k ≤ j ∧ u k = i ∧ A0 u i k ∧ A0 u k j := by
  obtain ⟨ht, hfl⟩ := hf
  obtain ⟨c, c1, c2, c3⟩ := child0 h (h j hij (Nat.le_refl _)).2 hij (Nat.le_refl _)
  obtain ⟨k, k1, k2, k3, k4⟩ := exists_max (p := fun v => u v = i) (i := c) (j := j + 1) (by omega) c3
  have hik : i < k := by omega
  have key : ∀ w, i < w → w ≤ j → Dsc Pos u k w → w ≠ k → False := fun w w1 w2 hkw hne => by
    have h1 := hkw.up hne.symm
    rw [k3] at h1
    have := anc_anti ht (a := i) (b := w) (by omega) h1 (h w w1 w2).2
    omega
  refine ⟨k, hik, by omega, k3, fun v v1 v2 => ⟨⟨((h v v1 (by omega)).1).1, ?_⟩, (h v v1 (by omega)).2⟩, ?_⟩
  · by_cases e : v = k
    · subst e; omega
    · rcases Nat.lt_or_ge k (u v) with q | q
      · have hu := (h v v1 (by omega)).1
        exact (key (u v) (by omega) hu.2 (hfl v (by omega) (by omega) k (.inl ⟨by omega, q⟩)) (by omega)).elim
      · exact q
  · have hup : ∀ v, k < v → v ≤ j → k ≤ u v ∧ u v ≤ j := fun v v1 v2 => by
      have hu := (h v (by omega) v2).1
      refine ⟨?_, hu.2⟩
      rcases Nat.lt_or_ge (u v) k with q | q
      · have hk := hfl v (by omega) (by omega) k (.inr ⟨q, v1⟩)
        by_cases e : u v = i
        · exact absurd e (k4 v v1 (by omega))
        · exact (key (u v) (by omega) hu.2 hk (by omega)).elim
      · exact q
    intro v v1 v2
    refine ⟨hup v v1 v2, ?_⟩
    obtain ⟨hu, r, hr⟩ := ht
    generalize hm : r v = m
    induction m using Nat.strongRecOn generalizing v with
    | ind m ih =>
      obtain ⟨a1, a2⟩ := hup v v1 v2
      refine .step (show Pos v from by unfold Pos; omega) ?_
      by_cases e : u v = k
      · rw [e]; exact .refl _
      · exact ih (r (u v)) (by have := hr v (by omega) (by omega); omega) (u v) (by omega) a2 rfl
theorem exists_min_ {p : Nat → Prop} {i : Nat} : ∀ {j : Nat}, i < j → p (j - 1) → ∃ k, i ≤ k ∧ k < j ∧ p k ∧ ∀ v, i ≤ v → v < k → ¬ p v := by
  intro j hij hp
  obtain ⟨k, hk, hl⟩ := least_of (p := fun m => p (i + m)) (m := j - 1 - i) (by rw [show i + (j - 1 - i) = j - 1 by omega]; exact hp)
  refine ⟨i + k, by omega, ?_, hk, fun v h1 h2 => ?_⟩
  · rcases Nat.lt_or_ge (j - 1 - i) k with q | q
    · have := hl (j - 1 - i) q
      rw [show i + (j - 1 - i) = j - 1 by omega] at this
      exact absurd hp this
    · omega
  · have := hl (v - i) (by omega)
    rwa [show i + (v - i) = v by omega] at this
theorem exists_min2 {p : Nat → Prop} {i j c : Nat} (h1 : i ≤ c) (h2 : c < j) (hp : p c) : ∃ k, i ≤ k ∧ k < j ∧ p k ∧ ∀ v, i ≤ v → v < k → ¬ p v := by
  obtain ⟨k, k1, k2, k3, k4⟩ := exists_min_ (i := i) (j := c + 1) (by omega) hp
  exact ⟨k, k1, by omega, k3, k4⟩
theorem split_shut1 {n : Nat} {u : Nat → Nat} (hf : FlatT n u) {i j : Nat} (hi : 0 < i) (hij : i < j) (hj : j < n) (h : A1 u i j) : ∃ k, i ≤ k ∧ k < j ∧ u k = j ∧ A1 u i k ∧ A1 u k j := by
  obtain ⟨ht, hfl⟩ := hf
  obtain ⟨c, c1, c2, c3⟩ := child1 h (h i (Nat.le_refl _) hij).2 (Nat.le_refl _) hij
  obtain ⟨k, k1, k2, k3, k4⟩ := exists_min2 (p := fun v => u v = j) c1 c2 c3
  have key : ∀ w, i ≤ w → w < j → Dsc Pos u k w → w ≠ k → False := fun w w1 w2 hkw hne => by
    have h1 := hkw.up hne.symm
    rw [k3] at h1
    have := anc_anti ht (a := j) (b := w) (by omega) h1 (h w w1 w2).2
    omega
  refine ⟨k, k1, k2, k3, ?_, fun v v1 v2 => ⟨⟨?_, ((h v (by omega) v2).1).2⟩, (h v (by omega) v2).2⟩⟩
  · have hup : ∀ v, i ≤ v → v < k → i ≤ u v ∧ u v ≤ k := fun v v1 v2 => by
      have hu := (h v v1 (by omega)).1
      refine ⟨hu.1, ?_⟩
      rcases Nat.lt_or_ge k (u v) with q | q
      · have hk := hfl v (by omega) (by omega) k (.inl ⟨v2, q⟩)
        by_cases e : u v = j
        · exact absurd e (k4 v v1 v2)
        · exact (key (u v) hu.1 (by omega) hk (by omega)).elim
      · exact q
    intro v v1 v2
    refine ⟨hup v v1 v2, ?_⟩
    obtain ⟨hu, r, hr⟩ := ht
    generalize hm : r v = m
    induction m using Nat.strongRecOn generalizing v with
    | ind m ih =>
      obtain ⟨a1, a2⟩ := hup v v1 v2
      refine .step (show Pos v from by unfold Pos; omega) ?_
      by_cases e : u v = k
      · rw [e]; exact .refl _
      · exact ih (r (u v)) (by have := hr v (by omega) (by omega); omega) (u v) a1 (by omega) rfl
  · by_cases e : v = k
    · subst e; omega
    · rcases Nat.lt_or_ge (u v) k with q | q
      · have hu := (h v (by omega) v2).1
        exact (key (u v) hu.1 (by omega) (hfl v (by omega) (by omega) k (.inr ⟨q, by omega⟩)) (by omega)).elim
      · exact q
theorem cross0 {n : Nat} {u : Nat → Nat} (hf : FlatT n u) {v j : Nat} (hvj : v < j) (hj : j < n) {a : Nat} (h : Dsc Pos u a j) : a < v → Dsc Pos u v j := by
  generalize hb : j = b at h
  induction h with
  | refl a => intro q; omega
  | @step a b ha k ih =>
    subst hb
    intro q
    rcases Nat.lt_trichotomy (u a) v with e | e | e
    · exact ih rfl e
    · rw [← e]; exact k
    · exact (hf.2 a ha (by omega) v (.inl ⟨q, e⟩)).trans k
theorem cross1 {n : Nat} {u : Nat → Nat} (hf : FlatT n u) {v i : Nat} (hvi : i < v) {a : Nat} (h : Dsc Pos u a i) : v < a → a < n → Dsc Pos u v i := by
  generalize hb : i = b at h
  induction h with
  | refl a => intro q; omega
  | @step a b ha k ih =>
    subst hb
    intro q hn
    rcases Nat.lt_trichotomy (u a) v with e | e | e
    · exact (hf.2 a ha hn v (.inr ⟨e, q⟩)).trans k
    · rw [← e]; exact k
    · exact ih rfl e (hf.1.1 a ha hn)
theorem split_open0 {n : Nat} {u : Nat → Nat} (hf : FlatT n u) {i j : Nat} (hij : i < j) (hj : j < n) (h : A0 u i j) (hji : u j = i) : ∃ k, i ≤ k ∧ k < j ∧ A0 u i k ∧ A1 u (k + 1) j := by
  obtain ⟨m, m1, m2, m3, m4⟩ := exists_min2 (p := fun v => Dsc Pos u v j) (i := i + 1) (j := j + 1) (c := j) (by omega) (by omega) (.refl j)
  have hcl : ∀ v, m ≤ v → v ≤ j → Dsc Pos u v j := fun v v1 v2 => by
    by_cases e : v = m
    · subst e; exact m3
    · by_cases e2 : v = j
      · subst e2; exact .refl _
      · exact cross0 hf (by omega) hj m3 (by omega)
  refine ⟨m - 1, by omega, by omega, fun v v1 v2 => ?_, ?_⟩
  · obtain ⟨⟨a1, a2⟩, a3⟩ := h v v1 (by omega)
    refine ⟨⟨a1, ?_⟩, a3⟩
    rcases Nat.lt_or_ge (u v) m with q | q
    · omega
    · exact absurd (Dsc.step (show Pos v from by unfold Pos; omega) (hcl (u v) q a2)) (m4 v (by omega) (by omega))
  · rw [show m - 1 + 1 = m by omega]
    intro v v1 v2
    obtain ⟨⟨a1, a2⟩, a3⟩ := h v (by omega) (by omega)
    have hv := hcl v v1 (by omega)
    refine ⟨⟨?_, a2⟩, hv⟩
    have hu := hv.up (by omega)
    rcases Nat.lt_or_ge (u v) m with q | q
    · by_cases e : u v = i
      · rw [e] at hu
        have := anc_anti hf.1 (a := i) (by omega) hu (.step (show Pos j from by unfold Pos; omega) (by rw [hji]; exact .refl _))
        omega
      · exact absurd hu (m4 (u v) (by omega) q)
    · exact q
theorem split_open1 {n : Nat} {u : Nat → Nat} (hf : FlatT n u) {i j : Nat} (hi : 0 < i) (hij : i < j) (hj : j < n) (h : A1 u i j) (hij2 : u i = j) : ∃ k, i ≤ k ∧ k < j ∧ A0 u i k ∧ A1 u (k + 1) j := by
  obtain ⟨m, m1, m2, m3, m4⟩ := exists_max (p := fun v => Dsc Pos u v i) (i := i) (j := j) hij (.refl i)
  have hcl : ∀ v, i ≤ v → v ≤ m → Dsc Pos u v i := fun v v1 v2 => by
    by_cases e : v = m
    · subst e; exact m3
    · by_cases e2 : v = i
      · subst e2; exact .refl _
      · exact cross1 hf (by omega) m3 (by omega) (by omega)
  refine ⟨m, m1, m2, fun v v1 v2 => ?_, fun v v1 v2 => ?_⟩
  · obtain ⟨⟨a1, a2⟩, a3⟩ := h v (by omega) (by omega)
    have hv := hcl v (by omega) v2
    refine ⟨⟨a1, ?_⟩, hv⟩
    have hu := hv.up (by omega)
    rcases Nat.lt_or_ge m (u v) with q | q
    · by_cases e : u v = j
      · rw [e] at hu
        have := anc_anti hf.1 (a := j) (by omega) hu (.step hi (by rw [hij2]; exact .refl _))
        omega
      · exact absurd hu (m4 (u v) q (by omega))
    · exact q
  · obtain ⟨⟨a1, a2⟩, a3⟩ := h v (by omega) v2
    refine ⟨⟨?_, a2⟩, a3⟩
    rcases Nat.lt_or_ge m (u v) with q | q
    · exact q
    · exact absurd (Dsc.step (show Pos v from by unfold Pos; omega) (hcl (u v) a1 q)) (m4 v (by omega) (by omega))
/-- no flat tree is better than the tables -/
theorem tab_best {n : Nat} {s : Nat → Nat → Int} {T : Tb} (hd : ∀ i, i < n → T 1 i i = (0, 0)) (hD : ∀ i j, i < j → j < n → Dn s T i j) {u : Nat → Nat} (hf : FlatT n u) : ∀ (N i j : Nat), j - i ≤ N → i ≤ j → j < n →
    (A0 u i j → sumR (fun v => s (u v) v) (i + 1) (j - i) ≤ (T 1 i j).1) ∧ (0 < i → A1 u i j → sumR (fun v => s (u v) v) i (j - i) ≤ (T 1 i j).2) ∧
    (i < j → A0 u i j → u j = i → sumR (fun v => s (u v) v) (i + 1) (j - i) ≤ (T 0 i j).1) ∧ (0 < i → i < j → A1 u i j → u i = j → sumR (fun v => s (u v) v) i (j - i) ≤ (T 0 i j).2)
  | 0, i, j, hN, hij, hj => by
    have : i = j := by omega
    subst this
    rw [Nat.sub_self, hd i hj]
    exact ⟨fun _ => Int.le_refl _, fun _ _ => Int.le_refl _, fun h => by omega, fun _ h => by omega⟩
  | N + 1, i, j, hN, hij, hj => by
    rcases Nat.lt_or_ge i j with q | q
    · have hDn := hD i j q hj
      have open0 : A0 u i j → u j = i → sumR (fun v => s (u v) v) (i + 1) (j - i) ≤ (T 0 i j).1 := fun h hji => by
        obtain ⟨k, k1, k2, k3, k4⟩ := split_open0 hf q hj h hji
        obtain ⟨m, _, _, _, hm, ho, _⟩ := hDn.oa
        have b1 := (tab_best hd hD hf N i k (by omega) k1 (by omega)).1 k3
        have b2 := (tab_best hd hD hf N (k + 1) j (by omega) (by omega) hj).2.1 (by omega) k4
        have b3 := hm k k1 k2
        have e1 : j - i = (k - i) + ((j - (k + 1)) + 1) := by omega
        rw [e1, sumR_add, sumR, show i + 1 + (k - i) = k + 1 by omega, show k + 1 + (j - (k + 1)) = j by omega, hji, ho]
        omega
      have open1 : 0 < i → A1 u i j → u i = j → sumR (fun v => s (u v) v) i (j - i) ≤ (T 0 i j).2 := fun hi h hij2 => by
        obtain ⟨k, k1, k2, k3, k4⟩ := split_open1 hf hi q hj h hij2
        obtain ⟨m, _, _, _, hm, _, ho⟩ := hDn.oa
        rw [if_pos hi] at ho
        have b1 := (tab_best hd hD hf N i k (by omega) k1 (by omega)).1 k3
        have b2 := (tab_best hd hD hf N (k + 1) j (by omega) (by omega) hj).2.1 (by omega) k4
        have b3 := hm k k1 k2
        have e1 : j - i = 1 + ((k - i) + (j - (k + 1))) := by omega
        rw [e1, sumR_add, sumR_add, show i + 1 + (k - i) = k + 1 by omega, ho]
        have e2 : sumR (fun v => s (u v) v) i 1 = s j i := by simp [sumR, hij2]
        rw [e2]
        omega
      refine ⟨fun h => ?_, fun hi h => ?_, fun _ h hji => open0 h hji, fun hi _ h hij2 => open1 hi h hij2⟩
      · obtain ⟨k, k1, k2, k3, k4, k5⟩ := split_shut0 hf q hj h
        obtain ⟨m, _, _, _, _, hm⟩ := hDn.s0
        have b3 := hm k k1 k2
        have b2 := (tab_best hd hD hf N k j (by omega) k2 hj).1 k5
        have b1 : sumR (fun v => s (u v) v) (i + 1) (k - i) ≤ (T 0 i k).1 := by
          by_cases e : k = j
          · rw [e] at k4 k3 ⊢; exact open0 k4 k3
          · exact (tab_best hd hD hf N i k (by omega) (by omega) (by omega)).2.2.1 k1 k4 k3
        have e1 : j - i = (k - i) + (j - k) := by omega
        rw [e1, sumR_add, show i + 1 + (k - i) = k + 1 by omega]
        omega
      · obtain ⟨k, k1, k2, k3, k4, k5⟩ := split_shut1 hf hi q hj h
        obtain ⟨m, _, _, _, _, hm⟩ := hDn.s1
        have b3 := hm k k1 k2
        have b2 := (tab_best hd hD hf N i k (by omega) k1 (by omega)).2.1 hi k4
        have b1 : sumR (fun v => s (u v) v) k (j - k) ≤ (T 0 k j).2 := by
          by_cases e : k = i
          · rw [e] at k5 k3 ⊢; exact open1 hi k5 k3
          · exact (tab_best hd hD hf N k j (by omega) (by omega) hj).2.2.2 (by omega) k2 k5 k3
        have e1 : j - i = (k - i) + (j - k) := by omega
        rw [e1, sumR_add, show i + (k - i) = k by omega]
        omega
    · have : i = j := by omega
      subst this
      rw [Nat.sub_self, hd i hj]
      exact ⟨fun _ => Int.le_refl _, fun _ _ => Int.le_refl _, fun h => by omega, fun _ h => by omega⟩
theorem flat_best {n : Nat} {s : Nat → Nat → Int} {T : Tb} (hn : 1 ≤ n) (hd : ∀ i, i < n → T 1 i i = (0, 0)) (hD : ∀ i j, i < j → j < n → Dn s T i j) {u : Nat → Nat} (hf : FlatT n u) : Wt n s u ≤ (T 1 0 (n - 1)).1 := by
  have h := (tab_best hd hD hf (n - 1) 0 (n - 1) (by omega) (by omega) (by omega)).1 fun v v0 vn => ⟨⟨Nat.zero_le _, by have := hf.1.1 v v0 (by omega); omega⟩, tree_anc hf.1 v (by omega)⟩
  have e : Wt n s u = sumR (fun v => s (u v) v) 1 (n - 1) := wtK_sumR s u (n - 1)
  rw [e]
  simpa using h
end Go.Proofs.Ytaepnmnoofigjaa

/- Pieces put together; how a piece of the tables is filled. -/
namespace Go.Proofs.Ytaepnmnoofigjaa
def D0 (i j v : Nat) : Prop := i < v ∧ v ≤ j
def D1 (i j v : Nat) : Prop := i ≤ v ∧ v < j
def Btw (v h k : Nat) : Prop := v < k ∧ k < h ∨ h < k ∧ k < v
/-- a flat piece whose head is its left end -/
def P0 (u : Nat → Nat) (i j : Nat) : Prop := ∀ v, i < v → v ≤ j → (i ≤ u v ∧ u v ≤ j) ∧ Dsc (D0 i j) u v i ∧ ∀ k, Btw v (u v) k → Dsc (D0 i j) u k (u v)
/-- a flat piece whose head is its right end -/
def P1 (u : Nat → Nat) (i j : Nat) : Prop := ∀ v, i ≤ v → v < j → (i ≤ u v ∧ u v ≤ j) ∧ Dsc (D1 i j) u v j ∧ ∀ k, Btw v (u v) k → Dsc (D1 i j) u k (u v)
theorem P0.nil (u : Nat → Nat) (i : Nat) : P0 u i i := fun v h1 h2 => by omega
theorem P1.nil (u : Nat → Nat) (i : Nat) : P1 u i i := fun v h1 h2 => by omega
theorem P0.same {u u' : Nat → Nat} {i j : Nat} (h : P0 u i j) (hu : ∀ v, i < v → v ≤ j → u' v = u v) : P0 u' i j := fun v h1 h2 => by
  obtain ⟨a, b, c⟩ := h v h1 h2
  have e := hu v h1 h2
  rw [e]
  exact ⟨a, b.mono (fun _ h => h) fun v hv => hu v hv.1 hv.2, fun k hk => (c k hk).mono (fun _ h => h) fun v hv => hu v hv.1 hv.2⟩
theorem P1.same {u u' : Nat → Nat} {i j : Nat} (h : P1 u i j) (hu : ∀ v, i ≤ v → v < j → u' v = u v) : P1 u' i j := fun v h1 h2 => by
  obtain ⟨a, b, c⟩ := h v h1 h2
  have e := hu v h1 h2
  rw [e]
  exact ⟨a, b.mono (fun _ h => h) fun v hv => hu v hv.1 hv.2, fun k hk => (c k hk).mono (fun _ h => h) fun v hv => hu v hv.1 hv.2⟩
theorem P0.shut {u : Nat → Nat} {i k j : Nat} (hik : i < k) (hkj : k ≤ j) (h1 : P0 u i k) (h2 : P0 u k j) : P0 u i j := fun v v1 v2 => by
  have m1 : ∀ x, D0 i k x → D0 i j x := fun x h => ⟨h.1, Nat.le_trans h.2 hkj⟩
  have m2 : ∀ x, D0 k j x → D0 i j x := fun x h => ⟨Nat.lt_trans hik h.1, h.2⟩
  rcases Nat.lt_or_ge k v with q | q
  · obtain ⟨a, b, c⟩ := h2 v q v2
    exact ⟨⟨by omega, a.2⟩, (b.mono m2 fun _ _ => rfl).trans ((h1 k hik (Nat.le_refl _)).2.1.mono m1 fun _ _ => rfl), fun x hx => (c x hx).mono m2 fun _ _ => rfl⟩
  · obtain ⟨a, b, c⟩ := h1 v v1 q
    exact ⟨⟨a.1, by omega⟩, b.mono m1 fun _ _ => rfl, fun x hx => (c x hx).mono m1 fun _ _ => rfl⟩
theorem P1.shut {u : Nat → Nat} {i k j : Nat} (hik : i ≤ k) (hkj : k < j) (h1 : P1 u i k) (h2 : P1 u k j) : P1 u i j := fun v v1 v2 => by
  have m1 : ∀ x, D1 i k x → D1 i j x := fun x h => ⟨h.1, Nat.lt_trans h.2 hkj⟩
  have m2 : ∀ x, D1 k j x → D1 i j x := fun x h => ⟨Nat.le_trans hik h.1, h.2⟩
  rcases Nat.lt_or_ge v k with q | q
  · obtain ⟨a, b, c⟩ := h1 v v1 q
    exact ⟨⟨a.1, by omega⟩, (b.mono m1 fun _ _ => rfl).trans ((h2 k (Nat.le_refl _) hkj).2.1.mono m2 fun _ _ => rfl), fun x hx => (c x hx).mono m1 fun _ _ => rfl⟩
  · obtain ⟨a, b, c⟩ := h2 v q v2
    exact ⟨⟨by omega, a.2⟩, b.mono m2 fun _ _ => rfl, fun x hx => (c x hx).mono m2 fun _ _ => rfl⟩
theorem P0.open_ {u : Nat → Nat} {i k j : Nat} (hik : i ≤ k) (hkj : k < j) (h1 : P0 u i k) (h2 : P1 u (k + 1) j) (hu : u j = i) : P0 u i j := by
  have m1 : ∀ x, D0 i k x → D0 i j x := fun x h => ⟨h.1, Nat.le_of_lt (Nat.lt_of_le_of_lt h.2 hkj)⟩
  have m2 : ∀ x, D1 (k + 1) j x → D0 i j x := fun x h => ⟨by have := h.1; omega, Nat.le_of_lt h.2⟩
  have hj : Dsc (D0 i j) u j i := .step ⟨by omega, Nat.le_refl _⟩ (by rw [hu]; exact .refl _)
  intro v v1 v2
  rcases Nat.lt_or_ge k v with q | q
  · by_cases e : v = j
    · subst e
      rw [hu]
      refine ⟨⟨Nat.le_refl _, by omega⟩, hj, fun x hx => ?_⟩
      rcases hx with hx | hx
      · omega
      · rcases Nat.lt_or_ge k x with q2 | q2
        · exact ((h2 x q2 hx.2).2.1.mono m2 fun _ _ => rfl).trans hj
        · exact (h1 x hx.1 q2).2.1.mono m1 fun _ _ => rfl
    · obtain ⟨a, b, c⟩ := h2 v q (by omega)
      exact ⟨⟨by omega, a.2⟩, (b.mono m2 fun _ _ => rfl).trans hj, fun x hx => (c x hx).mono m2 fun _ _ => rfl⟩
  · obtain ⟨a, b, c⟩ := h1 v v1 q
    exact ⟨⟨a.1, by omega⟩, b.mono m1 fun _ _ => rfl, fun x hx => (c x hx).mono m1 fun _ _ => rfl⟩
theorem P1.open_ {u : Nat → Nat} {i k j : Nat} (hik : i ≤ k) (hkj : k < j) (h1 : P0 u i k) (h2 : P1 u (k + 1) j) (hu : u i = j) : P1 u i j := by
  have m1 : ∀ x, D0 i k x → D1 i j x := fun x h => ⟨Nat.le_of_lt h.1, Nat.lt_of_le_of_lt h.2 hkj⟩
  have m2 : ∀ x, D1 (k + 1) j x → D1 i j x := fun x h => ⟨by have := h.1; omega, h.2⟩
  have hi : Dsc (D1 i j) u i j := .step ⟨Nat.le_refl _, by omega⟩ (by rw [hu]; exact .refl _)
  intro v v1 v2
  rcases Nat.lt_or_ge k v with q | q
  · obtain ⟨a, b, c⟩ := h2 v q v2
    exact ⟨⟨by omega, a.2⟩, b.mono m2 fun _ _ => rfl, fun x hx => (c x hx).mono m2 fun _ _ => rfl⟩
  · by_cases e : v = i
    · subst e
      rw [hu]
      refine ⟨⟨by omega, Nat.le_refl _⟩, hi, fun x hx => ?_⟩
      rcases hx with hx | hx
      · rcases Nat.lt_or_ge k x with q2 | q2
        · exact (h2 x q2 hx.2).2.1.mono m2 fun _ _ => rfl
        · exact ((h1 x hx.1 q2).2.1.mono m1 fun _ _ => rfl).trans hi
      · omega
    · obtain ⟨a, b, c⟩ := h1 v (by omega) q
      exact ⟨⟨a.1, by omega⟩, (b.mono m1 fun _ _ => rfl).trans hi, fun x hx => (c x hx).mono m1 fun _ _ => rfl⟩
theorem zs_of_dsc {D : Nat → Prop} {u : Nat → Nat} {v h : Nat} (hD : ∀ x, D x → x ≠ 0) (k : Dsc D u v h) : h = 0 → Zs u v := by
  induction k with
  | refl v => intro e; subst e; exact ⟨0, .zero⟩
  | step hv _ ih => intro e; obtain ⟨m, hm⟩ := ih e; exact ⟨m + 1, .step (hD _ hv) hm⟩
theorem P0.flat {n : Nat} {u : Nat → Nat} (h : P0 u 0 (n - 1)) : FlatT n u := by
  have hD : ∀ x, D0 0 (n - 1) x → x ≠ 0 := fun x hx => by have := hx.1; omega
  have hu : ∀ v, 0 < v → v < n → u v < n := fun v v0 vn => by have := (h v v0 (by omega)).1; omega
  refine ⟨⟨hu, rank_of_ToZ (fun v v0 vn => zs_of_dsc hD (h v v0 (by omega)).2.1 rfl) hu⟩, fun v v0 vn k hk => ((h v v0 (by omega)).2.2 k hk).mono (fun x hx => hx.1) fun _ _ => rfl⟩
/-- bounds of the tables -/
structure Bdd (T : Tb) (i j : Nat) : Prop where
  o0 : -(1000000 * ((j : Int) - (i : Int))) ≤ (T 0 i j).1 ∧ (T 0 i j).1 ≤ 1000000 * ((j : Int) - (i : Int))
  s0 : -(1000000 * ((j : Int) - (i : Int))) ≤ (T 1 i j).1 ∧ (T 1 i j).1 ≤ 1000000 * ((j : Int) - (i : Int))
  o1 : 0 < i → -(1000000 * ((j : Int) - (i : Int))) ≤ (T 0 i j).2 ∧ (T 0 i j).2 ≤ 1000000 * ((j : Int) - (i : Int))
  s1 : 0 < i → -(1000000 * ((j : Int) - (i : Int))) ≤ (T 1 i j).2 ∧ (T 1 i j).2 ≤ 1000000 * ((j : Int) - (i : Int))
  o2 : i = 0 → (T 0 i j).2 = NEV
  s2 : i = 0 → NEV - 1000000 * (j : Int) ≤ (T 1 i j).2 ∧ (T 1 i j).2 ≤ NEV + 1000000 * (j : Int)
/-- what lies before a piece is filled -/
structure Pre (T : Tb) (n i j : Nat) : Prop where
  lt : i < j
  ltn : j < n
  n13 : n ≤ 13
  dg : ∀ a, a < n → T 1 a a = (0, 0)
  sub : ∀ a b, i ≤ a → a < b → b ≤ j → (i < a ∨ b < j) → Bdd T a b
theorem Pre.c {T : Tb} {n i j k : Nat} (h : Pre T n i j) (h1 : i ≤ k) (h2 : k < j) : -(1000000 * ((j : Int) - (i : Int) - 1)) ≤ (T 1 i k).1 + (T 1 (k + 1) j).2 ∧ (T 1 i k).1 + (T 1 (k + 1) j).2 ≤ 1000000 * ((j : Int) - (i : Int) - 1) := by
  have hl := h.ltn
  have a : -(1000000 * ((k : Int) - (i : Int))) ≤ (T 1 i k).1 ∧ (T 1 i k).1 ≤ 1000000 * ((k : Int) - (i : Int)) := by
    by_cases e : k = i
    · subst e; rw [h.dg k (by omega)]; exact ⟨by simp, by simp⟩
    · exact (h.sub i k (Nat.le_refl _) (by omega) (by omega) (.inr h2)).s0
  have b : -(1000000 * ((j : Int) - ((k + 1 : Nat) : Int))) ≤ (T 1 (k + 1) j).2 ∧ (T 1 (k + 1) j).2 ≤ 1000000 * ((j : Int) - ((k + 1 : Nat) : Int)) := by
    by_cases e : k + 1 = j
    · rw [e, h.dg j hl]; exact ⟨by simp, by simp⟩
    · exact (h.sub (k + 1) j (by omega) (by omega) (Nat.le_refl _) (.inl (by omega))).s1 (by omega)
  omega
/-- a table with some cells told anew at one place -/
def upT (T : Tb) (i j : Nat) (v : Nat → Int × Int) : Tb := fun t a b => if a = i ∧ b = j then v t else T t a b
theorem upT_self (T : Tb) (i j : Nat) (v : Nat → Int × Int) (t : Nat) : upT T i j v t i j = v t := by unfold upT; rw [if_pos ⟨rfl, rfl⟩]
theorem upT_ne {T : Tb} {i j a b : Nat} (v : Nat → Int × Int) (t : Nat) (h : ¬ (a = i ∧ b = j)) : upT T i j v t a b = T t a b := by unfold upT; rw [if_neg h]
/-- where the search for an open piece stands -/
def SO (T : Tb) (i j k : Nat) (inn : Int) (m : Nat) : Prop := (k = i ∧ inn = NEV ∧ m = i) ∨ (i ≤ m ∧ m < k ∧ inn = (T 1 i m).1 + (T 1 (m + 1) j).2 ∧ ∀ k', i ≤ k' → k' < k → (T 1 i k').1 + (T 1 (k' + 1) j).2 ≤ inn)
theorem SO.next {T : Tb} {n i j k m : Nat} {inn : Int} (h : SO T i j k inn m) (hp : Pre T n i j) (h1 : i ≤ k) (h2 : k < j) : (inn < (T 1 i k).1 + (T 1 (k + 1) j).2 → SO T i j (k + 1) ((T 1 i k).1 + (T 1 (k + 1) j).2) k) ∧ (¬ inn < (T 1 i k).1 + (T 1 (k + 1) j).2 → SO T i j (k + 1) inn m) := by
  have hc := hp.c h1 h2
  have := hp.n13
  have := hp.ltn
  refine ⟨fun hlt => .inr ⟨h1, by omega, rfl, fun k' k1 k2 => ?_⟩, fun hge => ?_⟩
  · rcases lt_succ_cases k2 with q | q
    · rcases h with ⟨e, _⟩ | ⟨_, _, e, ha⟩
      · omega
      · have := ha k' k1 q; omega
    · subst q; exact Int.le_refl _
  · rcases h with ⟨e1, e2, _⟩ | ⟨a1, a2, a3, ha⟩
    · unfold NEV at e2; omega
    · refine .inr ⟨a1, by omega, a3, fun k' k1 k2 => ?_⟩
      rcases lt_succ_cases k2 with q | q
      · exact ha k' k1 q
      · subst q; omega
/-- the open piece is found -/
structure Op (s : Nat → Nat → Int) (T : Tb) (i j : Nat) (V : Nat → Int × Int) : Prop where
  ex : ∃ k : Nat, V 2 = ((k : Int), (k : Int)) ∧ i ≤ k ∧ k < j ∧ (∀ k', i ≤ k' → k' < j → (T 1 i k').1 + (T 1 (k' + 1) j).2 ≤ (T 1 i k).1 + (T 1 (k + 1) j).2) ∧ (V 0).1 = (T 1 i k).1 + (T 1 (k + 1) j).2 + s i j ∧ (V 0).2 = if 0 < i then (T 1 i k).1 + (T 1 (k + 1) j).2 + s j i else NEV
/-- a candidate for a shut piece, head left -/
def c0 (T : Tb) (i j : Nat) (V : Nat → Int × Int) (k : Nat) : Int := if k = j then (V 0).1 else (T 0 i k).1 + (T 1 k j).1
/-- a candidate for a shut piece, head right -/
def c1 (T : Tb) (i j : Nat) (V : Nat → Int × Int) (k : Nat) : Int := if k = i then (T 1 i i).2 + (V 0).2 else (T 1 i k).2 + (T 0 k j).2
def S0 (T : Tb) (i j : Nat) (V : Nat → Int × Int) (k : Nat) : Prop := (k = i + 1 ∧ (V 1).1 = 2 * NEV) ∨ (∃ m : Nat, (V 3).1 = (m : Int) ∧ i < m ∧ m < k ∧ (V 1).1 = c0 T i j V m ∧ ∀ k', i < k' → k' < k → c0 T i j V k' ≤ (V 1).1)
def S1 (T : Tb) (i j : Nat) (V : Nat → Int × Int) (k : Nat) : Prop := (k = i ∧ (V 1).2 = 2 * NEV) ∨ (∃ m : Nat, (V 3).2 = (m : Int) ∧ i ≤ m ∧ m < k ∧ (V 1).2 = c1 T i j V m ∧ ∀ k', i ≤ k' → k' < k → c1 T i j V k' ≤ (V 1).2)
theorem Op.bd {s : Nat → Nat → Int} {T : Tb} {n i j : Nat} {V : Nat → Int × Int} (h : Op s T i j V) (hp : Pre T n i j) (hs : ∀ h w, h < n → 0 < w → w < n → -1000000 ≤ s h w ∧ s h w ≤ 1000000) : (-(1000000 * ((j : Int) - (i : Int))) ≤ (V 0).1 ∧ (V 0).1 ≤ 1000000 * ((j : Int) - (i : Int))) ∧ (0 < i → -(1000000 * ((j : Int) - (i : Int))) ≤ (V 0).2 ∧ (V 0).2 ≤ 1000000 * ((j : Int) - (i : Int))) ∧ (i = 0 → (V 0).2 = NEV) := by
  obtain ⟨k, _, h1, h2, _, h3, h4⟩ := h.ex
  have hc := hp.c h1 h2
  have hl := hp.lt
  have hn := hp.ltn
  have b1 := hs i j (by omega) (by omega) hn
  refine ⟨by omega, fun hi => ?_, fun hi => by rw [h4, if_neg (by omega)]⟩
  have b2 := hs j i hn hi (by omega)
  rw [if_pos hi] at h4
  omega
theorem c0_bd {s : Nat → Nat → Int} {T : Tb} {n i j : Nat} {V : Nat → Int × Int} (h : Op s T i j V) (hp : Pre T n i j) (hs : ∀ h w, h < n → 0 < w → w < n → -1000000 ≤ s h w ∧ s h w ≤ 1000000) {k : Nat} (h1 : i < k) (h2 : k ≤ j) : -(1000000 * ((j : Int) - (i : Int))) ≤ c0 T i j V k ∧ c0 T i j V k ≤ 1000000 * ((j : Int) - (i : Int)) := by
  unfold c0
  split
  · exact (h.bd hp hs).1
  · have a := (hp.sub i k (Nat.le_refl _) h1 h2 (.inr (by omega))).o0
    have b := (hp.sub k j (by omega) (by omega) (Nat.le_refl _) (.inl h1)).s0
    omega
theorem c1_bd {s : Nat → Nat → Int} {T : Tb} {n i j : Nat} {V : Nat → Int × Int} (h : Op s T i j V) (hp : Pre T n i j) (hs : ∀ h w, h < n → 0 < w → w < n → -1000000 ≤ s h w ∧ s h w ≤ 1000000) {k : Nat} (h1 : i ≤ k) (h2 : k < j) : (0 < i → -(1000000 * ((j : Int) - (i : Int))) ≤ c1 T i j V k ∧ c1 T i j V k ≤ 1000000 * ((j : Int) - (i : Int))) ∧ (i = 0 → NEV - 1000000 * (j : Int) ≤ c1 T i j V k ∧ c1 T i j V k ≤ NEV + 1000000 * (j : Int)) := by
  have hl := hp.lt
  have hn := hp.ltn
  unfold c1
  split
  · rw [hp.dg i (by omega)]
    obtain ⟨_, b1, b2⟩ := h.bd hp hs
    refine ⟨fun hi => ?_, fun hi => ?_⟩
    · have := b1 hi; simp only [Int.zero_add]; exact this
    · have := b2 hi; simp only [Int.zero_add]; rw [this]; omega
  · have b := (hp.sub k j (by omega) (by omega) (Nat.le_refl _) (.inl (by omega))).o1 (by omega)
    have a := hp.sub i k (Nat.le_refl _) (by omega) (by omega) (.inr h2)
    refine ⟨fun hi => ?_, fun hi => ?_⟩
    · have := a.s1 hi; omega
    · have := a.s2 hi; omega
theorem S0.next {s : Nat → Nat → Int} {T : Tb} {n i j k : Nat} {V : Nat → Int × Int} (h : S0 T i j V k) (ho : Op s T i j V) (hp : Pre T n i j) (hs : ∀ h w, h < n → 0 < w → w < n → -1000000 ≤ s h w ∧ s h w ≤ 1000000) (h1 : i < k) (h2 : k ≤ j) :
    (∀ V', V' 0 = V 0 → (V' 1).1 = c0 T i j V k → (V' 3).1 = (k : Int) → (V 1).1 < c0 T i j V k → S0 T i j V' (k + 1)) ∧ (¬ (V 1).1 < c0 T i j V k → S0 T i j V (k + 1)) := by
  have hc := c0_bd ho hp hs h1 h2
  have := hp.n13
  have := hp.ltn
  refine ⟨fun V' e0 e1 e3 hlt => .inr ⟨k, e3, h1, by omega, ?_, fun k' k1 k2 => ?_⟩, fun hge => ?_⟩
  · rw [e1]; unfold c0; rw [e0]
  · rw [e1]
    have e : c0 T i j V' k' = c0 T i j V k' := by unfold c0; rw [e0]
    rw [e]
    rcases lt_succ_cases k2 with q | q
    · rcases h with ⟨e, _⟩ | ⟨_, _, _, _, e, ha⟩
      · omega
      · have := ha k' k1 q; omega
    · subst q; exact Int.le_refl _
  · rcases h with ⟨e1, e2⟩ | ⟨m, a0, a1, a2, a3, ha⟩
    · unfold NEV at e2; omega
    · refine .inr ⟨m, a0, a1, by omega, a3, fun k' k1 k2 => ?_⟩
      rcases lt_succ_cases k2 with q | q
      · exact ha k' k1 q
      · subst q; omega
theorem S1.next {s : Nat → Nat → Int} {T : Tb} {n i j k : Nat} {V : Nat → Int × Int} (h : S1 T i j V k) (ho : Op s T i j V) (hp : Pre T n i j) (hs : ∀ h w, h < n → 0 < w → w < n → -1000000 ≤ s h w ∧ s h w ≤ 1000000) (h1 : i ≤ k) (h2 : k < j) :
    (∀ V', V' 0 = V 0 → (V' 1).2 = c1 T i j V k → (V' 3).2 = (k : Int) → (V 1).2 < c1 T i j V k → S1 T i j V' (k + 1)) ∧ (¬ (V 1).2 < c1 T i j V k → S1 T i j V (k + 1)) := by
  have hc := c1_bd ho hp hs h1 h2
  have := hp.n13
  have := hp.ltn
  refine ⟨fun V' e0 e1 e3 hlt => .inr ⟨k, e3, h1, by omega, ?_, fun k' k1 k2 => ?_⟩, fun hge => ?_⟩
  · rw [e1]; unfold c1; rw [e0]
  · rw [e1]
    have e : c1 T i j V' k' = c1 T i j V k' := by unfold c1; rw [e0]
    rw [e]
    rcases lt_succ_cases k2 with q | q
    · rcases h with ⟨e, _⟩ | ⟨_, _, _, _, e, ha⟩
      · omega
      · have := ha k' k1 q; omega
    · subst q; exact Int.le_refl _
  · rcases h with ⟨e1, e2⟩ | ⟨m, a0, a1, a2, a3, ha⟩
    · rcases Nat.eq_zero_or_pos i with q | q
      · have := hc.2 q; unfold NEV at e2 this; omega
      · have := hc.1 q; unfold NEV at e2; omega
    · refine .inr ⟨m, a0, a1, by omega, a3, fun k' k1 k2 => ?_⟩
      rcases lt_succ_cases k2 with q | q
      · exact ha k' k1 q
      · subst q; omega
/-- the piece is filled -/
theorem filled {s : Nat → Nat → Int} {T : Tb} {n i j : Nat} {V : Nat → Int × Int} (ho : Op s T i j V) (hp : Pre T n i j) (hs : ∀ h w, h < n → 0 < w → w < n → -1000000 ≤ s h w ∧ s h w ≤ 1000000) (h0 : S0 T i j V (j + 1)) (h1 : S1 T i j V j) : Dn s (upT T i j V) i j ∧ Bdd (upT T i j V) i j := by
  have hl := hp.lt
  have hn := hp.ltn
  have e0 : ∀ k, i < k → k ≤ j → (upT T i j V 0 i k).1 + (upT T i j V 1 k j).1 = c0 T i j V k := fun k k1 k2 => by
    unfold c0
    rw [upT_ne V 1 (show ¬ (k = i ∧ j = j) by omega)]
    split
    · rename_i e; subst e; rw [upT_self, hp.dg k hn]; simp
    · rw [upT_ne V 0 (show ¬ (i = i ∧ k = j) by omega)]
  have e1 : ∀ k, i ≤ k → k < j → (upT T i j V 1 i k).2 + (upT T i j V 0 k j).2 = c1 T i j V k := fun k k1 k2 => by
    unfold c1
    rw [upT_ne V 1 (show ¬ (i = i ∧ k = j) by omega)]
    split
    · rename_i e; subst e; rw [upT_self]
    · rw [upT_ne V 0 (show ¬ (k = i ∧ j = j) by omega)]
  have e2 : ∀ k, i ≤ k → k < j → (upT T i j V 1 i k).1 + (upT T i j V 1 (k + 1) j).2 = (T 1 i k).1 + (T 1 (k + 1) j).2 := fun k k1 k2 => by
    rw [upT_ne V 1 (show ¬ (i = i ∧ k = j) by omega), upT_ne V 1 (show ¬ (k + 1 = i ∧ j = j) by omega)]
  obtain ⟨k, a1, a2, a3, a4, a5, a6⟩ := ho.ex
  obtain ⟨m0, b1, b2, b3, b4, b5⟩ : ∃ m : Nat, (V 3).1 = (m : Int) ∧ i < m ∧ m < j + 1 ∧ (V 1).1 = c0 T i j V m ∧ ∀ k', i < k' → k' < j + 1 → c0 T i j V k' ≤ (V 1).1 := by
    rcases h0 with ⟨e, _⟩ | h
    · omega
    · exact h
  obtain ⟨m1, d1, d2, d3, d4, d5⟩ : ∃ m : Nat, (V 3).2 = (m : Int) ∧ i ≤ m ∧ m < j ∧ (V 1).2 = c1 T i j V m ∧ ∀ k', i ≤ k' → k' < j → c1 T i j V k' ≤ (V 1).2 := by
    rcases h1 with ⟨e, _⟩ | h
    · omega
    · exact h
  have g0 := c0_bd ho hp hs b2 (by omega)
  have g1 := c1_bd ho hp hs d2 d3
  obtain ⟨f1, f2, f3⟩ := ho.bd hp hs
  refine ⟨⟨⟨k, by rw [upT_self]; exact a1, a2, a3, fun k' h1 h2 => by rw [e2 k' h1 h2, e2 k a2 a3]; exact a4 k' h1 h2, by rw [upT_self, e2 k a2 a3]; exact a5, by rw [upT_self, e2 k a2 a3]; exact a6⟩,
    ⟨m0, by rw [upT_self]; exact b1, b2, by omega, by rw [e0 m0 b2 (by omega), upT_self]; exact b4, fun k' h1 h2 => by rw [e0 k' h1 h2, upT_self]; exact b5 k' h1 (by omega)⟩,
    ⟨m1, by rw [upT_self]; exact d1, d2, d3, by rw [e1 m1 d2 d3, upT_self]; exact d4, fun k' h1 h2 => by rw [e1 k' h1 h2, upT_self]; exact d5 k' h1 h2⟩⟩,
    ⟨by rw [upT_self]; exact f1, by rw [upT_self, b4]; exact g0, fun hi => by rw [upT_self]; exact f2 hi, fun hi => by rw [upT_self, d4]; exact g1.1 hi, fun hi => by rw [upT_self]; exact f3 hi, fun hi => by rw [upT_self, d4]; exact g1.2 hi⟩⟩
theorem c0_up {T : Tb} {n i j : Nat} (V : Nat → Int × Int) (hp : Pre T n i j) {k : Nat} (h1 : i < k) (h2 : k ≤ j) : (upT T i j V 0 i k).1 + (upT T i j V 1 k j).1 = c0 T i j V k := by
  unfold c0
  rw [upT_ne V 1 (show ¬ (k = i ∧ j = j) by omega)]
  split
  · rename_i e; subst e; rw [upT_self, hp.dg k hp.ltn]; simp
  · rw [upT_ne V 0 (show ¬ (i = i ∧ k = j) by omega)]
theorem c1_up {T : Tb} {n i j : Nat} (V : Nat → Int × Int) (hp : Pre T n i j) {k : Nat} (h1 : i ≤ k) (h2 : k < j) : (upT T i j V 1 i k).2 + (upT T i j V 0 k j).2 = c1 T i j V k := by
  have := hp.lt
  unfold c1
  rw [upT_ne V 1 (show ¬ (i = i ∧ k = j) by omega)]
  split
  · rename_i e; subst e; rw [upT_self]
  · rw [upT_ne V 0 (show ¬ (k = i ∧ j = j) by omega)]
theorem Op.same {s : Nat → Nat → Int} {T : Tb} {i j : Nat} {V V' : Nat → Int × Int} (h : Op s T i j V) (e0 : V' 0 = V 0) (e2 : V' 2 = V 2) : Op s T i j V' := by
  obtain ⟨k, h1, h2⟩ := h.ex
  exact ⟨k, by rw [e2]; exact h1, by rw [e0]; exact h2⟩
theorem S0.same {T : Tb} {i j k : Nat} {V V' : Nat → Int × Int} (h : S0 T i j V k) (e0 : V' 0 = V 0) (e1 : (V' 1).1 = (V 1).1) (e3 : (V' 3).1 = (V 3).1) : S0 T i j V' k := by
  have ec : ∀ k, c0 T i j V' k = c0 T i j V k := fun k => by unfold c0; rw [e0]
  rcases h with ⟨a, b⟩ | ⟨m, a, b, c, d, e⟩
  · exact .inl ⟨a, by rw [e1]; exact b⟩
  · exact .inr ⟨m, by rw [e3]; exact a, b, c, by rw [e1, ec]; exact d, fun k' h1 h2 => by rw [e1, ec]; exact e k' h1 h2⟩
end Go.Proofs.Ytaepnmnoofigjaa

/- The tables as they lie; how a piece is filled. -/
namespace Go.Proofs.Ytaepnmnoofigjaa
open Go.RowKit Go.Maps
/-- an outer row -/
def oR (f : Nat → Nat) (n : Nat) : List (List AV) := (List.range n).map fun i => [.osl (f i) 2 0 n]
theorem oR_len (f : Nat → Nat) (n : Nat) : (oR f n).length = n := by simp [oR]
theorem oR_get {f : Nat → Nat} {n i : Nat} (h : i < n) : (oR f n)[i]? = some [.osl (f i) 2 0 n] := by simp [oR, h]
theorem oR_el {f : Nat → Nat} {n i : Nat} (h : i < (oR f n).length) : (oR f n)[i] = [.osl (f i) 2 0 n] := by simp [oR]
/-- an inner row -/
def tR (f : Nat → Int × Int) (n : Nat) : List (List AV) := (List.range n).map fun j => [.p (.int .i64 (f j).1), .p (.int .i64 (f j).2)]
theorem tR_len (f : Nat → Int × Int) (n : Nat) : (tR f n).length = n := by simp [tR]
theorem tR_get {f : Nat → Int × Int} {n i : Nat} (h : i < n) : (tR f n)[i]? = some [.p (.int .i64 (f i).1), .p (.int .i64 (f i).2)] := by simp [tR, h]
theorem tR_el {f : Nat → Int × Int} {n i : Nat} (h : i < (tR f n).length) : (tR f n)[i] = [.p (.int .i64 (f i).1), .p (.int .i64 (f i).2)] := by simp [tR]
theorem tR_set {f : Nat → Int × Int} {n j : Nat} (x : Int × Int) (_hj : j < n) : (tR f n).set j [.p (.int .i64 x.1), .p (.int .i64 x.2)] = tR (fun k => if k = j then x else f k) n := by
  refine List.ext_getElem (by simp [tR]) fun i h1 h2 => ?_
  rw [List.getElem_set]
  simp only [tR, List.getElem_map, List.getElem_range]
  by_cases e : j = i
  · subst e; simp
  · rw [if_neg e, if_neg (fun c => e c.symm)]
structure EisId (B : AH) (X : Nat) (oid : Nat → Nat) (ids : Nat → Nat → Nat) (uid n : Nat) : Prop where
  fX : B.nx ≤ X
  fo : ∀ t, t < 4 → B.nx ≤ oid t
  fi : ∀ t i, t < 4 → i < n → B.nx ≤ ids t i
  fu : B.nx ≤ uid
  inj : ∀ t i t' i', t < 4 → i < n → t' < 4 → i' < n → ids t i = ids t' i' → t = t' ∧ i = i'
  ix : ∀ t i, t < 4 → i < n → ids t i ≠ X
  io : ∀ t i t', t < 4 → i < n → t' < 4 → ids t i ≠ oid t'
  iu : ∀ t i, t < 4 → i < n → ids t i ≠ uid
  ux : uid ≠ X
  uo : ∀ t, t < 4 → uid ≠ oid t
structure EisAt (B H : AH) (X : Nat) (sc : AV) (oid : Nat → Nat) (ids : Nat → Nat → Nat) (uid n : Nat) (T : Tb) (u : Nat → Nat) : Prop where
  le : B.le H
  nx : B.nx ≤ H.nx
  box : H.get X = some (.box 42 [sc, .osl (oid 0) 1 0 n, .osl (oid 1) 1 0 n, .osl (oid 2) 1 0 n, .osl (oid 3) 1 0 n, .osl uid 1 0 (n - 1)])
  out : ∀ t, t < 4 → H.get (oid t) = some (.row 45 1 (oR (ids t) n))
  inn : ∀ t i, t < 4 → i < n → H.get (ids t i) = some (.row 56 2 (tR (T t i) n))
  ups : H.get uid = some (.row 3 1 (iE (lst n u)))
section
variable {B H : AH} {X : Nat} {sc : AV} {oid : Nat → Nat} {ids : Nat → Nat → Nat} {uid n : Nat} {T : Tb} {u : Nat → Nat}
theorem EisAt.up (h : EisAt B H X sc oid ids uid n T u) (m : Nat) : EisAt B (H.up m) X sc oid ids uid n T u :=
  ⟨h.le.up, Nat.le_trans h.nx (Nat.le_add_right _ _), h.box, h.out, h.inn, h.ups⟩
/-- one cell of the tables is told anew -/
theorem EisAt.put (h : EisAt B H X sc oid ids uid n T u) (hi : EisId B X oid ids uid n) (hw : WF B) {t i j : Nat} (ht : t < 4) (hin : i < n) (hj : j < n) (x : Int × Int) :
    EisAt B (H.put (ids t i) (.row 56 2 ((tR (T t i) n).set j [.p (.int .i64 x.1), .p (.int .i64 x.2)]))) X sc oid ids uid n (fun t' a b => if t' = t ∧ a = i ∧ b = j then x else T t' a b) u := by
  refine ⟨.put hw (hi.fi t i ht hin) h.le, h.nx, ?_, fun t' ht' => ?_, fun t' i' ht' hi' => ?_, ?_⟩
  · rw [AH.get_put_ne (fun e => hi.ix t i ht hin e.symm)]; exact h.box
  · rw [AH.get_put_ne (fun e => hi.io t i t' ht hin ht' e.symm)]; exact h.out t' ht'
  · by_cases e : ids t' i' = ids t i
    · obtain ⟨e1, e2⟩ := hi.inj _ _ _ _ ht' hi' ht hin e
      subst e1 e2
      rw [put_get, tR_set x hj]
      simp
    · rw [AH.get_put_ne e, h.inn t' i' ht' hi']
      congr 3
      funext b
      rw [if_neg]
      rintro ⟨e1, e2, _⟩
      exact e (by rw [e1, e2])
  · rw [AH.get_put_ne (fun e => hi.iu t i ht hin e.symm)]; exact h.ups
theorem EisAt.putU (h : EisAt B H X sc oid ids uid n T u) (hi : EisId B X oid ids uid n) (hw : WF B) {u' : Nat → Nat} : EisAt B (H.put uid (.row 3 1 (iE (lst n u')))) X sc oid ids uid n T u' := by
  refine ⟨.put hw hi.fu h.le, h.nx, ?_, fun t' ht' => ?_, fun t' i' ht' hi' => ?_, put_get _ _⟩
  · rw [AH.get_put_ne (fun e => hi.ux e.symm)]; exact h.box
  · rw [AH.get_put_ne (fun e => hi.uo t' ht' e.symm)]; exact h.out t' ht'
  · rw [AH.get_put_ne (hi.iu t' i' ht' hi')]; exact h.inn t' i' ht' hi'
theorem EisAt.congr (h : EisAt B H X sc oid ids uid n T u) {T' : Tb} (hT : ∀ t a b, t < 4 → a < n → b < n → T' t a b = T t a b) : EisAt B H X sc oid ids uid n T' u := by
  refine ⟨h.le, h.nx, h.box, h.out, fun t i ht hi => ?_, h.ups⟩
  rw [h.inn t i ht hi]
  congr 2
  refine List.ext_getElem (by simp [tR]) fun b h1 h2 => ?_
  rw [tR_len] at h1
  simp only [tR, List.getElem_map, List.getElem_range]
  rw [hT t i b ht hi h1]
/-- one cell of what is told anew -/
def setV (V : Nat → Int × Int) (t : Nat) (x : Int × Int) : Nat → Int × Int := fun t' => if t' = t then x else V t'
theorem EisAt.setV {i j : Nat} {V : Nat → Int × Int} (h : EisAt B H X sc oid ids uid n (upT T i j V) u) (hi : EisId B X oid ids uid n) (hw : WF B) {t : Nat} (ht : t < 4) (hin : i < n) (hj : j < n) (x : Int × Int) {es : List (List AV)}
    (hes : es = (tR (upT T i j V t i) n).set j [.p (.int .i64 x.1), .p (.int .i64 x.2)]) : EisAt B (H.put (ids t i) (.row 56 2 es)) X sc oid ids uid n (upT T i j (setV V t x)) u := by
  subst hes
  refine (h.put hi hw ht hin hj x).congr fun t' a b _ _ _ => ?_
  unfold upT Go.Proofs.Ytaepnmnoofigjaa.setV
  by_cases q : a = i ∧ b = j
  · rw [if_pos q]
    by_cases e : t' = t
    · rw [if_pos e, if_pos ⟨e, q.1, q.2⟩]
    · rw [if_neg e, if_neg (fun c => e c.1), if_pos q]
  · rw [if_neg q, if_neg (fun c => q ⟨c.2.1, c.2.2⟩), if_neg q]
theorem upT_setV {i j t t' : Nat} {V : Nat → Int × Int} (x : Int × Int) (h : t' ≠ t) : upT T i j (setV V t x) t' i = upT T i j V t' i := by
  funext b
  unfold upT setV
  rw [if_neg h]
end
set_option maxHeartbeats 8000000 in
theorem c_fill {B H : AH} {X : Nat} {sc : AV} {oid : Nat → Nat} {ids : Nat → Nat → Nat} {uid n : Nat} {T : Tb} {u : Nat → Nat} {s : List (List Int)} (hwB : WF B) (hid : EisId B X oid ids uid n) (hs : ScOk n s) (hsc : ScAt B sc s) {i j : Nat} (hp : Pre T n i j) (hE : EisAt B H X sc oid ids uid n T u) :
    Tri Try.prog 24 [.ptr X 0, iv (i : Int), iv (j : Int)] H (fun _ H' => H.nx ≤ H'.nx ∧ ∃ V, Dn (sco s) (upT T i j V) i j ∧ Bdd (upT T i j V) i j ∧ EisAt B H' X sc oid ids uid n (upT T i j V) u) := tri_wf fun hw => tri_eisner_fill (by
  have hij := hp.lt
  have hjn := hp.ltn
  have hn := hp.n13
  have hrng := hs.rng
  unfold S_eisner_fill
  refine loop_wf (H0 := H) (fun x : Int × Nat × Nat => [iv x.1, iv x.2.1, iv x.2.2]) (fun x H' => EisAt B H' X sc oid ids uid n T u ∧ H.nx ≤ H'.nx ∧ i ≤ x.2.2 ∧ x.2.2 ≤ j ∧ SO T i j x.2.2 x.1 x.2.1) (fun x => j - x.2.2) (NEV, i, i) (.refl (Nat.le_refl _)) ⟨hE, Nat.le_refl _, Nat.le_refl _, Nat.le_of_lt hij, .inl ⟨rfl, rfl, rfl⟩⟩ ?_
  rintro ⟨inn, m, k⟩ H1 hn1 hw1 ⟨hE1, hnx1, hik, hkj, hso⟩ kk hkk
  dsimp only at hik hkj hso hkk
  unfold S_eisner_fill_L8
  have hbox := hE1.box
  have hout := hE1.out
  have hinn := hE1.inn
  by_cases hkl : k < j
  · unfold S_eisner_fill_C1
    have hkl' : (k : Int) < (j : Int) := by omega
    obtain ⟨k1, hk1⟩ : ∃ k1, k1 = k + 1 := ⟨_, rfl⟩
    have hw1k : IntKind.i64.wrap ((k : Int) + 1) = (k1 : Int) := by rw [ivn (by omega), hk1]
    have ho1 := hout 1 (by omega)
    have hi1 := hinn 1 i (by omega) (by omega)
    have hi2 := hinn 1 k1 (by omega) (by omega)
    simp (disch := first | omega | simp) [iv, hkl', hbox, ho1, oR_get, hi1, hi2, tR_get, hw1k]
    have hc := hp.c hik hkl
    obtain ⟨hnx1', hnx2'⟩ := hso.next hp hik hkl
    have hwc : IntKind.i64.wrap ((T 1 i k).1 + (T 1 k1 j).2) = (T 1 i k).1 + (T 1 (k + 1) j).2 := by rw [hk1, IntKind.wrap_i64]; omega
    rw [hwc]
    refine ⟨by omega, by omega, by omega, by omega, fun hlt => ?_, fun hge => ?_⟩
    · exact hkk ((T 1 i k).1 + (T 1 (k + 1) j).2, k, k1) _ _ _ (.refl (by omega)) ⟨hE1, hnx1, by dsimp only; omega, by dsimp only; omega, by rw [hk1]; exact hnx1' hlt⟩ (by dsimp only; omega)
    · exact hkk (inn, m, k1) _ _ _ (.refl (by omega)) ⟨hE1, hnx1, by dsimp only; omega, by dsimp only; omega, by rw [hk1]; exact hnx2' (by omega)⟩ (by dsimp only; omega)
  have hke : k = j := by omega
  have hkl' : ¬ (k : Int) < (j : Int) := by omega
  obtain ⟨hm1, hm2, hm3, hm4⟩ : i ≤ m ∧ m < j ∧ inn = (T 1 i m).1 + (T 1 (m + 1) j).2 ∧ ∀ k', i ≤ k' → k' < j → (T 1 i k').1 + (T 1 (k' + 1) j).2 ≤ inn := by
    rcases hso with ⟨e, _⟩ | h
    · omega
    · rw [hke] at h; exact h
  have hcm := hp.c hm1 hm2
  have hsc1 := hsc.le (hE1.up 36).le
  obtain ⟨r1, hr1, hx1, hb1⟩ := hs.at_ (i := i) (w := j) (by omega) (by omega) hjn
  obtain ⟨q1, cc1, q11, q13, hc1⟩ := hsc1.acc hr1
  obtain ⟨z1, z11, z13⟩ := hc1.acc hx1
  have hj1 : IntKind.i64.wrap ((j : Int) - 1) = ((j - 1 : Nat) : Int) := by rw [IntKind.wrap_i64]; omega
  have ho0 := hout 0 (by omega)
  have ho2 := hout 2 (by omega)
  have hi0 := hinn 0 i (by omega) (by omega)
  have hi2 := hinn 2 i (by omega) (by omega)
  have hin : i < n := by omega
  have hw1 : IntKind.i64.wrap (inn + sco s i j) = inn + sco s i j := by rw [IntKind.wrap_i64]; omega
  have hne02 : ids 2 i ≠ ids 0 i := fun e => by have := (hid.inj 2 i 0 i (by omega) hin (by omega) hin e).1; omega
  simp (disch := first | omega | simp) [iv, hkl']
  unfold S_eisner_fill_C7
  obtain ⟨V0, hV0⟩ : ∃ V0 : Nat → Int × Int, V0 = fun t => T t i j := ⟨_, rfl⟩
  have E0 : EisAt B H1 X sc oid ids uid n (upT T i j V0) u := hE1.congr fun t a b _ _ _ => by
    unfold upT; split
    · rename_i e; rw [hV0, e.1, e.2]
    · rfl
  have hi0 := E0.inn 0 i (by omega) hin
  have hi2 := E0.inn 2 i (by omega) hin
  have hiv0 : inn + sco s i j = inn + sco s i j := rfl
  simp (disch := first | omega | simp) [iv, hbox, ho0, ho2, oR_get, hi0, hi2, tR_get, hin, hjn, q11, q13, hj1, z11, z13, hw1, put_get_ne, upT_self]
  generalize hH2 : AH.put (AH.put (H1.up 36) _ _) _ _ = H2
  have E2 : EisAt B H2 X sc oid ids uid n (upT T i j (setV (setV V0 0 (inn + sco s i j, (V0 0).2)) 2 ((m : Int), (V0 2).2))) u := by
    rw [← hH2]
    exact (((E0.up 36).setV hid hwB (by omega) hin hjn (inn + sco s i j, (V0 0).2) rfl).setV hid hwB (by omega) hin hjn ((m : Int), (V0 2).2) (by rw [upT_setV _ (by omega)]))
  generalize hV2 : setV (setV V0 0 (inn + sco s i j, (V0 0).2)) 2 ((m : Int), (V0 2).2) = V2 at E2
  have hV20 : V2 0 = (inn + sco s i j, (V0 0).2) := by rw [← hV2]; rfl
  have hV22 : V2 2 = ((m : Int), (V0 2).2) := by rw [← hV2]; rfl
  have hbox2 := E2.box
  have ho20 := E2.out 0 (by omega)
  have ho22 := E2.out 2 (by omega)
  have hi20 := E2.inn 0 i (by omega) hin
  have hi22 := E2.inn 2 i (by omega) hin
  have hH2n : H2.nx = H1.nx + 36 := by rw [← hH2]; rfl
  simp (disch := first | omega | simp) [hbox2, ho20, ho22, oR_get, hi20, hi22, tR_get, hin, hjn, put_get_ne, upT_self]
  generalize hH3 : AH.put (AH.put (H2.up 23) _ _) _ _ = H3
  have E3 : EisAt B H3 X sc oid ids uid n (upT T i j (setV (setV V2 0 ((V2 0).1, NEV)) 2 ((V2 2).1, (m : Int)))) u := by
    rw [← hH3]
    exact (((E2.up 23).setV hid hwB (by omega) hin hjn ((V2 0).1, NEV) rfl).setV hid hwB (by omega) hin hjn ((V2 2).1, (m : Int)) (by rw [upT_setV _ (by omega)]))
  generalize hV3 : setV (setV V2 0 ((V2 0).1, NEV)) 2 ((V2 2).1, (m : Int)) = V3 at E3
  have hV30 : V3 0 = (inn + sco s i j, NEV) := by rw [← hV3]; show ((V2 0).1, NEV) = _; rw [hV20]
  have hV32 : V3 2 = ((m : Int), (m : Int)) := by rw [← hV3]; show ((V2 2).1, (m : Int)) = _; rw [hV22]
  have hH3n : H3.nx = H2.nx + 23 := by rw [← hH3]; rfl
  refine cut_wf (fun _ : Unit => []) (fun _ H' => ∃ V, EisAt B H' X sc oid ids uid n (upT T i j V) u ∧ H.nx ≤ H'.nx ∧ Op (sco s) T i j V) (fun kc hkc => ?_) ?_
  · by_cases hi0 : 0 < i
    · have hi0' : (0 < i) = True := eq_true hi0
      have hbox3 := E3.box
      have ho30 := E3.out 0 (by omega)
      have hi30 := E3.inn 0 i (by omega) hin
      have hsc3 := hsc.le (E3.up 24).le
      obtain ⟨r2, hr2, hx2, hb2⟩ := hs.at_ (i := j) (w := i) hjn hi0 hin
      obtain ⟨q2, cc2, q21, q23, hc2⟩ := hsc3.acc hr2
      obtain ⟨z2, z21, z23⟩ := hc2.acc hx2
      have hi1 : IntKind.i64.wrap ((i : Int) - 1) = ((i - 1 : Nat) : Int) := by rw [IntKind.wrap_i64]; omega
      have hw2 : IntKind.i64.wrap (inn + sco s j i) = inn + sco s j i := by rw [IntKind.wrap_i64]; omega
      simp (disch := first | omega | simp) [iv, hi0', hbox3, ho30, oR_get, hi30, tR_get, hin, hjn, upT_self, q21, q23, hi1, z21, z23, hw2]
      refine hkc () _ _ _ (.refl (by simp only [put_nx, up_nx]; omega)) ⟨setV V3 0 ((V3 0).1, inn + sco s j i), (E3.up 24).setV hid hwB (by omega) hin hjn ((V3 0).1, inn + sco s j i) rfl, by simp only [put_nx, up_nx]; omega, ⟨m, hV32, hm1, hm2, fun k' h1 h2 => by have := hm4 k' h1 h2; omega, ?_, ?_⟩⟩
      · show (V3 0).1 = _; rw [hV30, hm3]
      · rw [if_pos hi0]; show inn + sco s j i = _; rw [hm3]
    · have hi0' : (0 < i) = False := eq_false hi0
      have hi0z : i = 0 := by omega
      simp (disch := first | omega | simp) [hi0']
      refine hkc () _ _ _ (.refl (by omega)) ⟨V3, E3, by omega, ⟨m, hV32, hm1, hm2, fun k' h1 h2 => by have := hm4 k' h1 h2; omega, ?_, ?_⟩⟩
      · rw [hV30, hm3]
      · rw [if_neg hi0, hV30]
  rintro _ H4 hn4 hw4 ⟨V4, E4, hnx4, hO4⟩
  unfold S_eisner_fill_K6
  have hbox4 := E4.box
  have ho41 := E4.out 1 (by omega)
  have hi41 := E4.inn 1 i (by omega) hin
  obtain ⟨i1, hi1⟩ : ∃ i1, i1 = i + 1 := ⟨_, rfl⟩
  have hwi : IntKind.i64.wrap ((i : Int) + 1) = (i1 : Int) := by rw [ivn (by omega), hi1]
  simp (disch := first | omega | simp) [hbox4, ho41, oR_get, hi41, tR_get, hin, hjn, hwi]
  generalize hH5 : AH.put (H4.up 11) _ _ = H5
  have E5 : EisAt B H5 X sc oid ids uid n (upT T i j (setV V4 1 (2 * NEV, 2 * NEV))) u := by
    rw [← hH5]; exact (E4.up 11).setV hid hwB (by omega) hin hjn (2 * NEV, 2 * NEV) rfl
  have hH5n : H5.nx = H4.nx + 11 := by rw [← hH5]; rfl
  refine loop_wf (H0 := H5) (fun x : Nat × (Nat → Int × Int) => [iv x.1]) (fun x H' => EisAt B H' X sc oid ids uid n (upT T i j x.2) u ∧ H.nx ≤ H'.nx ∧ Op (sco s) T i j x.2 ∧ S0 T i j x.2 x.1 ∧ (x.2 1).2 = 2 * NEV ∧ i < x.1 ∧ x.1 ≤ j + 1) (fun x => j + 1 - x.1) (i1, setV V4 1 (2 * NEV, 2 * NEV)) (.refl (Nat.le_refl _)) ⟨E5, by omega, hO4.same rfl rfl, .inl ⟨hi1, rfl⟩, rfl, by dsimp only; omega, by dsimp only; omega⟩ ?_
  rintro ⟨k6, V6⟩ H6 hn6 hw6 ⟨E6, hnx6, hO6, hS6, hz6, hk61, hk62⟩ kk6 hkk6
  dsimp only at E6 hO6 hS6 hz6 hk61 hk62 hkk6
  unfold S_eisner_fill_L5
  have hbox6 := E6.box
  have ho60 := E6.out 0 (by omega)
  have ho61 := E6.out 1 (by omega)
  have ho63 := E6.out 3 (by omega)
  by_cases hkl6 : k6 ≤ j
  · have hkl6' : (k6 : Int) ≤ (j : Int) := by omega
    unfold S_eisner_fill_C2
    have hk6n : k6 < n := by omega
    have hi60 := E6.inn 0 i (by omega) hin
    have hi61 := E6.inn 1 i (by omega) hin
    have hi63 := E6.inn 3 i (by omega) hin
    have hi61k := E6.inn 1 k6 (by omega) hk6n
    have hb := c0_bd hO6 hp hrng hk61 hkl6
    have hwc : IntKind.i64.wrap ((upT T i j V6 0 i k6).1 + (upT T i j V6 1 k6 j).1) = c0 T i j V6 k6 := by rw [c0_up V6 hp hk61 hkl6, IntKind.wrap_i64]; omega
    obtain ⟨hnx1, hnx2⟩ := hS6.next hO6 hp hrng hk61 hkl6
    have hk1 := ivn (i := k6) (by omega)
    have hne13 : ids 3 i ≠ ids 1 i := fun e => by have := (hid.inj 3 i 1 i (by omega) hin (by omega) hin e).1; omega
    have hself := upT_self T i j V6 1
    by_cases hlt : (V6 1).1 < c0 T i j V6 k6
    · have hlt' : ((V6 1).1 < c0 T i j V6 k6) = True := eq_true hlt
      simp (disch := first | omega | simp) [iv, hkl6', hbox6, ho60, ho61, ho63, oR_get, hi60, hi61, hi63, hi61k, tR_get, hin, hjn, hk6n, put_get_ne, upT_self, hwc, hlt', hk1]
      refine hkk6 (k6 + 1, setV (setV V6 1 (c0 T i j V6 k6, (V6 1).2)) 3 ((k6 : Int), (V6 3).2)) _ _ _ (.refl (by simp only [put_nx, up_nx]; omega)) ⟨((E6.up 24).setV hid hwB (by omega) hin hjn (c0 T i j V6 k6, (V6 1).2) rfl).setV hid hwB (by omega) hin hjn ((k6 : Int), (V6 3).2) (by rw [upT_setV _ (by omega)]), by simp only [put_nx, up_nx]; omega, hO6.same rfl rfl, hnx1 _ rfl rfl rfl hlt, hz6, by dsimp only; omega, by dsimp only; omega⟩ (by dsimp only; omega)
    · have hlt' : ((V6 1).1 < c0 T i j V6 k6) = False := eq_false hlt
      simp (disch := first | omega | simp) [iv, hkl6', hbox6, ho60, ho61, oR_get, hi60, hi61, hi61k, tR_get, hin, hjn, hk6n, upT_self, hwc, hlt', hk1]
      exact hkk6 (k6 + 1, V6) _ _ _ (.refl (by omega)) ⟨E6, hnx6, hO6, hnx2 hlt, hz6, by dsimp only; omega, by dsimp only; omega⟩ (by dsimp only; omega)
  have hk6e : k6 = j + 1 := by omega
  rw [hk6e] at hS6
  have hkl6' : ¬ (k6 : Int) ≤ (j : Int) := by omega
  simp (disch := first | omega | simp) [iv, hkl6']
  refine loop_wf (H0 := H6) (fun x : Nat × (Nat → Int × Int) => [iv x.1]) (fun x H' => EisAt B H' X sc oid ids uid n (upT T i j x.2) u ∧ H.nx ≤ H'.nx ∧ Op (sco s) T i j x.2 ∧ S0 T i j x.2 (j + 1) ∧ S1 T i j x.2 x.1 ∧ i ≤ x.1 ∧ x.1 ≤ j) (fun x => j - x.1) (i, V6) (.refl (Nat.le_refl _)) ⟨E6, hnx6, hO6, hS6, .inl ⟨rfl, hz6⟩, Nat.le_refl _, Nat.le_of_lt hij⟩ ?_
  rintro ⟨k7, V7⟩ H7 hn7 hw7 ⟨E7, hnx7, hO7, hS7, hT7, hk71, hk72⟩ kk7 hkk7
  dsimp only at E7 hO7 hS7 hT7 hk71 hk72 hkk7
  unfold S_eisner_fill_L4
  have hbox7 := E7.box
  have ho70 := E7.out 0 (by omega)
  have ho71 := E7.out 1 (by omega)
  have ho73 := E7.out 3 (by omega)
  by_cases hkl7 : k7 < j
  · have hkl7' : (k7 : Int) < (j : Int) := by omega
    unfold S_eisner_fill_C3
    have hk7n : k7 < n := by omega
    have hi70k := E7.inn 0 k7 (by omega) hk7n
    have hi71 := E7.inn 1 i (by omega) hin
    have hi73 := E7.inn 3 i (by omega) hin
    have hb := c1_bd hO7 hp hrng hk71 hkl7
    have hwc : IntKind.i64.wrap ((upT T i j V7 1 i k7).2 + (upT T i j V7 0 k7 j).2) = c1 T i j V7 k7 := by
      rw [c1_up V7 hp hk71 hkl7, IntKind.wrap_i64]
      unfold NEV at hb
      rcases Nat.eq_zero_or_pos i with q | q
      · have := hb.2 q; omega
      · have := hb.1 q; omega
    obtain ⟨hnx1, hnx2⟩ := hT7.next hO7 hp hrng hk71 hkl7
    have hk1 := ivn (i := k7) (by omega)
    have hne13 : ids 3 i ≠ ids 1 i := fun e => by have := (hid.inj 3 i 1 i (by omega) hin (by omega) hin e).1; omega
    by_cases hlt : (V7 1).2 < c1 T i j V7 k7
    · have hlt' : ((V7 1).2 < c1 T i j V7 k7) = True := eq_true hlt
      simp (disch := first | omega | simp) [iv, hkl7', hbox7, ho70, ho71, ho73, oR_get, hi70k, hi71, hi73, tR_get, hin, hjn, hk7n, put_get_ne, upT_self, hwc, hlt', hk1]
      refine hkk7 (k7 + 1, setV (setV V7 1 ((V7 1).1, c1 T i j V7 k7)) 3 ((V7 3).1, (k7 : Int))) _ _ _ (.refl (by simp only [put_nx, up_nx]; omega)) ⟨((E7.up 24).setV hid hwB (by omega) hin hjn ((V7 1).1, c1 T i j V7 k7) rfl).setV hid hwB (by omega) hin hjn ((V7 3).1, (k7 : Int)) (by rw [upT_setV _ (by omega)]), by simp only [put_nx, up_nx]; omega, hO7.same rfl rfl, hS7.same rfl rfl rfl, hnx1 _ rfl rfl rfl hlt, by dsimp only; omega, by dsimp only; omega⟩ (by dsimp only; omega)
    · have hlt' : ((V7 1).2 < c1 T i j V7 k7) = False := eq_false hlt
      simp (disch := first | omega | simp) [iv, hkl7', hbox7, ho70, ho71, oR_get, hi70k, hi71, tR_get, hin, hjn, hk7n, upT_self, hwc, hlt', hk1]
      exact hkk7 (k7 + 1, V7) _ _ _ (.refl (by omega)) ⟨E7, hnx7, hO7, hS7, hnx2 hlt, by dsimp only; omega, by dsimp only; omega⟩ (by dsimp only; omega)
  have hk7e : k7 = j := by omega
  rw [hk7e] at hT7
  have hkl7' : ¬ (k7 : Int) < (j : Int) := by omega
  simp (disch := first | omega | simp) [iv, hkl7']
  obtain ⟨hDn, hBd⟩ := filled hO7 hp hrng hS7 hT7
  exact rt_refl ⟨hnx7, V7, hDn, hBd, E7⟩ (by omega))
end Go.Proofs.Ytaepnmnoofigjaa

/- What taking a piece apart leaves. -/
namespace Go.Proofs.Ytaepnmnoofigjaa
/-- what taking a piece apart leaves, head left -/
structure Post0 (s : Nat → Nat → Int) (T : Tb) (o : Bool) (u u' : Nat → Nat) (i j : Nat) : Prop where
  out : ∀ v, ¬ (i < v ∧ v ≤ j) → u' v = u v
  pc : P0 u' i j
  hd : o = true → u' j = i
  w : sumR (fun v => s (u' v) v) (i + 1) (j - i) = if o then (T 0 i j).1 else (T 1 i j).1
structure Post1 (s : Nat → Nat → Int) (T : Tb) (o : Bool) (u u' : Nat → Nat) (i j : Nat) : Prop where
  out : ∀ v, ¬ (i ≤ v ∧ v < j) → u' v = u v
  pc : P1 u' i j
  hd : o = true → u' i = j
  w : sumR (fun v => s (u' v) v) i (j - i) = if o then (T 0 i j).2 else (T 1 i j).2
def updU (u : Nat → Nat) (v h : Nat) : Nat → Nat := fun x => if x = v then h else u x
theorem lst_set {n v h : Nat} {u : Nat → Nat} (h0 : 0 < v) (_hn : v < n) : (lst n u).set (v - 1) (h : Int) = lst n (updU u v h) := by
  refine List.ext_getElem (by simp [lst]) fun i h1 h2 => ?_
  rw [List.getElem_set]
  simp only [lst, List.getElem_map, List.getElem_range, updU]
  by_cases e : v - 1 = i
  · rw [if_pos e, if_pos (by omega)]
  · rw [if_neg e, if_neg (by omega)]
theorem post0_nil {s : Nat → Nat → Int} {T : Tb} {n i : Nat} (u : Nat → Nat) (hd : ∀ i, i < n → T 1 i i = (0, 0)) (hi : i < n) : Post0 s T false u u i i :=
  ⟨fun _ _ => rfl, .nil _ _, (fun h => by cases h), by rw [Nat.sub_self, hd i hi]; rfl⟩
theorem post1_nil {s : Nat → Nat → Int} {T : Tb} {n i : Nat} (u : Nat → Nat) (hd : ∀ i, i < n → T 1 i i = (0, 0)) (hi : i < n) : Post1 s T false u u i i :=
  ⟨fun _ _ => rfl, .nil _ _, (fun h => by cases h), by rw [Nat.sub_self, hd i hi]; rfl⟩
theorem comb_open0 {s : Nat → Nat → Int} {T : Tb} {i j k : Nat} {u u1 u2 : Nat → Nat} (hik : i ≤ k) (hkj : k < j) (hv : (T 0 i j).1 = (T 1 i k).1 + (T 1 (k + 1) j).2 + s i j) (h1 : Post0 s T false (updU u j i) u1 i k) (h2 : Post1 s T false u1 u2 (k + 1) j) : Post0 s T true u u2 i j := by
  have e1 : ∀ v, i < v → v ≤ k → u2 v = u1 v := fun v a b => h2.out v (by omega)
  have ej : u2 j = i := by rw [h2.out j (by omega), h1.out j (by omega)]; unfold updU; rw [if_pos rfl]
  refine ⟨fun v hvo => ?_, .open_ hik hkj (h1.pc.same e1) h2.pc ej, fun _ => ej, ?_⟩
  · rw [h2.out v (by omega), h1.out v (by omega)]; unfold updU; rw [if_neg (by omega)]
  · have w1 := h1.w
    have w2 := h2.w
    simp only [Bool.false_eq_true, if_false] at w1 w2
    have w1' : sumR (fun v => s (u2 v) v) (i + 1) (k - i) = (T 1 i k).1 := by
      rw [← w1]; exact sumR_congr fun v a b => by rw [e1 v (by omega) (by omega)]
    have e2 : j - i = (k - i) + ((j - (k + 1)) + 1) := by omega
    rw [e2, sumR_add, sumR, show i + 1 + (k - i) = k + 1 by omega, show k + 1 + (j - (k + 1)) = j by omega, w1', w2, ej, if_pos rfl, hv]
    omega
theorem comb_open1 {s : Nat → Nat → Int} {T : Tb} {i j k : Nat} {u u1 u2 : Nat → Nat} (hik : i ≤ k) (hkj : k < j) (hv : (T 0 i j).2 = (T 1 i k).1 + (T 1 (k + 1) j).2 + s j i) (h1 : Post0 s T false (updU u i j) u1 i k) (h2 : Post1 s T false u1 u2 (k + 1) j) : Post1 s T true u u2 i j := by
  have e1 : ∀ v, i < v → v ≤ k → u2 v = u1 v := fun v a b => h2.out v (by omega)
  have ei : u2 i = j := by rw [h2.out i (by omega), h1.out i (by omega)]; unfold updU; rw [if_pos rfl]
  refine ⟨fun v hvo => ?_, .open_ hik hkj (h1.pc.same e1) h2.pc ei, fun _ => ei, ?_⟩
  · rw [h2.out v (by omega), h1.out v (by omega)]; unfold updU; rw [if_neg (by omega)]
  · have w1 := h1.w
    have w2 := h2.w
    simp only [Bool.false_eq_true, if_false] at w1 w2
    have w1' : sumR (fun v => s (u2 v) v) (i + 1) (k - i) = (T 1 i k).1 := by
      rw [← w1]; exact sumR_congr fun v a b => by rw [e1 v (by omega) (by omega)]
    have e2 : j - i = 1 + ((k - i) + (j - (k + 1))) := by omega
    have e3 : sumR (fun v => s (u2 v) v) i 1 = s j i := by simp [sumR, ei]
    rw [e2, sumR_add, sumR_add, show i + 1 + (k - i) = k + 1 by omega, w1', w2, e3, if_pos rfl, hv]
    omega
theorem comb_shut0 {s : Nat → Nat → Int} {T : Tb} {i j k : Nat} {u u1 u2 : Nat → Nat} (hik : i < k) (hkj : k ≤ j) (hv : (T 1 i j).1 = (T 0 i k).1 + (T 1 k j).1) (h1 : Post0 s T true u u1 i k) (h2 : Post0 s T false u1 u2 k j) : Post0 s T false u u2 i j := by
  have e1 : ∀ v, i < v → v ≤ k → u2 v = u1 v := fun v a b => h2.out v (by omega)
  refine ⟨fun v hvo => by rw [h2.out v (by omega), h1.out v (by omega)], .shut hik hkj (h1.pc.same e1) h2.pc, (fun h => by cases h), ?_⟩
  have w1 := h1.w
  have w2 := h2.w
  simp only [Bool.false_eq_true, if_false, if_true] at w1 w2
  have w1' : sumR (fun v => s (u2 v) v) (i + 1) (k - i) = (T 0 i k).1 := by
    rw [← w1]; exact sumR_congr fun v a b => by rw [e1 v (by omega) (by omega)]
  have e2 : j - i = (k - i) + (j - k) := by omega
  rw [e2, sumR_add, show i + 1 + (k - i) = k + 1 by omega, w1', w2]
  simp only [Bool.false_eq_true, if_false]
  omega
theorem comb_shut1 {s : Nat → Nat → Int} {T : Tb} {i j k : Nat} {u u1 u2 : Nat → Nat} (hik : i ≤ k) (hkj : k < j) (hv : (T 1 i j).2 = (T 1 i k).2 + (T 0 k j).2) (h1 : Post1 s T false u u1 i k) (h2 : Post1 s T true u1 u2 k j) : Post1 s T false u u2 i j := by
  have e1 : ∀ v, i ≤ v → v < k → u2 v = u1 v := fun v a b => h2.out v (by omega)
  refine ⟨fun v hvo => by rw [h2.out v (by omega), h1.out v (by omega)], .shut hik hkj (h1.pc.same e1) h2.pc, (fun h => by cases h), ?_⟩
  have w1 := h1.w
  have w2 := h2.w
  simp only [Bool.false_eq_true, if_false, if_true] at w1 w2
  have w1' : sumR (fun v => s (u2 v) v) i (k - i) = (T 1 i k).2 := by
    rw [← w1]; exact sumR_congr fun v a b => by rw [e1 v (by omega) (by omega)]
  have e2 : j - i = (k - i) + (j - k) := by omega
  rw [e2, sumR_add, show i + (k - i) = k by omega, w1', w2]
  simp only [Bool.false_eq_true, if_false]
  omega
/-- pieces that are done: all shorter ones, and of one length the first ones -/
structure Sz (s : Nat → Nat → Int) (T : Tb) (n sz i : Nat) : Prop where
  dg : ∀ a, a < n → T 1 a a = (0, 0)
  dn : ∀ a b, a < b → b < n → (b - a < sz ∨ (b - a = sz ∧ a < i)) → Dn s T a b ∧ Bdd T a b
theorem Sz.pre {s : Nat → Nat → Int} {T : Tb} {n sz i : Nat} (h : Sz s T n sz i) (h0 : 0 < sz) (hi : i + sz < n) (hn : n ≤ 13) : Pre T n i (i + sz) :=
  ⟨by omega, hi, hn, h.dg, fun a b h1 h2 h3 h4 => (h.dn a b h2 (by omega) (.inl (by omega))).2⟩
theorem Sz.next {s : Nat → Nat → Int} {T : Tb} {n sz i : Nat} {V : Nat → Int × Int} (h : Sz s T n sz i) (h0 : 0 < sz) (hi : i + sz < n) (hd : Dn s (upT T i (i + sz) V) i (i + sz)) (hb : Bdd (upT T i (i + sz) V) i (i + sz)) : Sz s (upT T i (i + sz) V) n sz (i + 1) := by
  refine ⟨fun a ha => by rw [upT_ne V 1 (by omega)]; exact h.dg a ha, fun a b h1 h2 h3 => ?_⟩
  by_cases e : a = i ∧ b = i + sz
  · obtain ⟨e1, e2⟩ := e
    subst e1 e2
    exact ⟨hd, hb⟩
  · obtain ⟨k1, k2⟩ := h.dn a b h1 h2 (by omega)
    refine ⟨k1.congr h1 fun t x y x1 x2 x3 => upT_ne V t ?_, ?_⟩
    · rintro ⟨e1, e2⟩; omega
    · obtain ⟨b1, b2, b3, b4, b5, b6⟩ := k2
      exact ⟨by rw [upT_ne V 0 e]; exact b1, by rw [upT_ne V 1 e]; exact b2, by rw [upT_ne V 0 e]; exact b3, by rw [upT_ne V 1 e]; exact b4, by rw [upT_ne V 0 e]; exact b5, by rw [upT_ne V 1 e]; exact b6⟩
theorem Sz.more {s : Nat → Nat → Int} {T : Tb} {n sz i : Nat} (h : Sz s T n sz i) (hi : n ≤ i + sz) : Sz s T n (sz + 1) 0 :=
  ⟨h.dg, fun a b h1 h2 h3 => h.dn a b h1 h2 (by omega)⟩
theorem Sz.start (s : Nat → Nat → Int) (n : Nat) : Sz s (fun _ _ _ => (0, 0)) n 1 0 := ⟨fun _ _ => rfl, fun a b h1 h2 h3 => by omega⟩
theorem post0_worth {n : Nat} {s : Nat → Nat → Int} {T : Tb} {u u' : Nat → Nat} (h : Post0 s T false u u' 0 (n - 1)) : Wt n s u' = (T 1 0 (n - 1)).1 := by
  have := h.w
  simp only [Bool.false_eq_true, if_false, Nat.sub_zero] at this
  rw [← this]
  exact wtK_sumR s u' (n - 1)
end Go.Proofs.Ytaepnmnoofigjaa

/- A piece is taken apart. -/
namespace Go.Proofs.Ytaepnmnoofigjaa
open Go.RowKit Go.Maps
theorem iE_set {n v h : Nat} {u : Nat → Nat} (h0 : 0 < v) (hn : v < n) : (iE (lst n u)).set (v - 1) [.p (.int .i64 (h : Int))] = iE (lst n (updU u v h)) := by
  rw [← lst_set h0 hn, iE, iE, List.map_set]; rfl
set_option maxHeartbeats 8000000 in
theorem c_take {B : AH} {X : Nat} {sc : AV} {oid : Nat → Nat} {ids : Nat → Nat → Nat} {uid n : Nat} {T : Tb} {s : Nat → Nat → Int} (hwB : WF B) (hid : EisId B X oid ids uid n) (hn13 : n ≤ 13) (hd : ∀ i, i < n → T 1 i i = (0, 0)) (hD : ∀ i j, i < j → j < n → Dn s T i j) (N : Nat) :
    ∀ (i j : Nat) (o : Bool) (u : Nat → Nat) (H : AH), 2 * (j - i) + (if o then 0 else 1) ≤ N → i ≤ j → j < n → (o = true → i < j) → EisAt B H X sc oid ids uid n T u →
    Tri Try.prog 25 [.ptr X 0, iv (i : Int), iv (j : Int), iv 0, bv o] H (fun _ H' => ∃ u', EisAt B H' X sc oid ids uid n T u' ∧ H.nx ≤ H'.nx ∧ Post0 s T o u u' i j) ∧
    (0 < i → Tri Try.prog 25 [.ptr X 0, iv (i : Int), iv (j : Int), iv 1, bv o] H (fun _ H' => ∃ u', EisAt B H' X sc oid ids uid n T u' ∧ H.nx ≤ H'.nx ∧ Post1 s T o u u' i j)) := by
  induction N with
  | zero =>
    intro i j o u H hN hij hj ho hE
    cases o with
    | true => have := ho rfl; simp at hN; omega
    | false => simp at hN
  | succ N ih =>
  intro i j o u H hN hij hjn ho hE
  have hin : i < n := by omega
  by_cases hlt : i < j
  · have hne : (i = j) = False := eq_false (by omega)
    have hnei : ((i : Int) = (j : Int)) = False := eq_false (by omega)
    have hDn := hD i j hlt hjn
    have hbox := hE.box
    have hups := hE.ups
    cases o with
    | true =>
      obtain ⟨k, hk0, hk1, hk2, _, hk4, hk5⟩ := hDn.oa
      obtain ⟨k1, hkk⟩ : ∃ k1, k1 = k + 1 := ⟨_, rfl⟩
      have hwk : IntKind.i64.wrap ((k : Int) + 1) = (k1 : Int) := by rw [ivn (by omega), hkk]
      have hN1 : 2 * (k - i) + 1 ≤ N := by simp at hN; omega
      have hN2 : 2 * (j - k1) + 1 ≤ N := by simp at hN; omega
      refine ⟨tri_wf fun hw => tri_eisner_take ?_, fun hi0 => tri_wf fun hw => tri_eisner_take ?_⟩
      · have hjj : IntKind.i64.wrap ((j : Int) - 1) = ((j - 1 : Nat) : Int) := by rw [IntKind.wrap_i64]; omega
        have hjl : j - 1 < n - 1 := by omega
        have hyo := iE_at (lst_at (u := u) hjl)
        have hyg : ∀ h, (iE (lst n u))[j - 1]'h = [iv (u (j - 1 + 1) : Nat)] := fun h => (List.getElem?_eq_some_iff.1 hyo).2
        simp only [iv] at hyo hyg
        unfold S_eisner_take
        simp (disch := first | omega | simp) [iv, bv, hnei]
        unfold S_eisner_take_C2
        simp (disch := first | omega | simp)
        refine cut_wf (fun _ : Unit => []) (fun _ H' => EisAt B H' X sc oid ids uid n T (updU u j i) ∧ H.nx ≤ H'.nx) (fun kc hkc => ?_) ?_
        · simp (disch := first | omega | simp) [hbox, hups, hjj, hjl, hyo]
          rw [iE_set (by omega) (hjn)]
          exact hkc () _ _ _ (.refl (by simp only [put_nx, up_nx]; omega)) ⟨(hE.up 9).putU hid hwB, by simp only [put_nx, up_nx]; omega⟩
        · rintro _ H1 hn1 hw1 ⟨hE1, hnx1⟩
          unfold S_eisner_take_K1
          have hbox1 := hE1.box
          have ho2 := hE1.out 2 (by omega)
          have hi2 := hE1.inn 2 i (by omega) hin
          simp (disch := first | omega | simp) [hbox1, ho2, oR_get, hi2, tR_get, hin, hjn, hk0]
          refine ca_of (by kernel_rfl) ((ih i k false _ H1 (by simpa using hN1) hk1 (by omega) (fun h => by cases h) hE1).1) ?_
          rintro r2 H2 ⟨u1, hE2, hnx2, hP1⟩
          simp (disch := first | omega | simp) [hwk]
          refine ca_of (by kernel_rfl) ((ih k1 j false _ H2 (by simpa using hN2) (by omega) hjn (fun h => by cases h) hE2).2 (by omega)) ?_
          rintro r3 H3 ⟨u2, hE3, hnx3, hP2⟩
          rw [hkk] at hP2
          exact rt_refl ⟨u2, hE3, by omega, comb_open0 hk1 hk2 hk4 hP1 hP2⟩ (by omega)
      · have hii : IntKind.i64.wrap ((i : Int) - 1) = ((i - 1 : Nat) : Int) := by rw [IntKind.wrap_i64]; omega
        have hil : i - 1 < n - 1 := by omega
        have hyo := iE_at (lst_at (u := u) hil)
        have hyg : ∀ h, (iE (lst n u))[i - 1]'h = [iv (u (i - 1 + 1) : Nat)] := fun h => (List.getElem?_eq_some_iff.1 hyo).2
        simp only [iv] at hyo hyg
        rw [if_pos hi0] at hk5
        unfold S_eisner_take
        simp (disch := first | omega | simp) [iv, bv, hnei]
        unfold S_eisner_take_C2
        simp (disch := first | omega | simp)
        refine cut_wf (fun _ : Unit => []) (fun _ H' => EisAt B H' X sc oid ids uid n T (updU u i j) ∧ H.nx ≤ H'.nx) (fun kc hkc => ?_) ?_
        · simp (disch := first | omega | simp) [hbox, hups, hii, hil, hyo]
          rw [iE_set (hi0) (hin)]
          exact hkc () _ _ _ (.refl (by simp only [put_nx, up_nx]; omega)) ⟨(hE.up 9).putU hid hwB, by simp only [put_nx, up_nx]; omega⟩
        · rintro _ H1 hn1 hw1 ⟨hE1, hnx1⟩
          unfold S_eisner_take_K1
          have hbox1 := hE1.box
          have ho2 := hE1.out 2 (by omega)
          have hi2 := hE1.inn 2 i (by omega) hin
          simp (disch := first | omega | simp) [hbox1, ho2, oR_get, hi2, tR_get, hin, hjn, hk0]
          refine ca_of (by kernel_rfl) ((ih i k false _ H1 (by simpa using hN1) hk1 (by omega) (fun h => by cases h) hE1).1) ?_
          rintro r2 H2 ⟨u1, hE2, hnx2, hP1⟩
          simp (disch := first | omega | simp) [hwk]
          refine ca_of (by kernel_rfl) ((ih k1 j false _ H2 (by simpa using hN2) (by omega) hjn (fun h => by cases h) hE2).2 (by omega)) ?_
          rintro r3 H3 ⟨u2, hE3, hnx3, hP2⟩
          rw [hkk] at hP2
          exact rt_refl ⟨u2, hE3, by omega, comb_open1 hk1 hk2 hk5 hP1 hP2⟩ (by omega)
    | false =>
      have ho3 := hE.out 3 (by omega)
      have hi3 := hE.inn 3 i (by omega) hin
      simp only [Bool.false_eq_true, if_false] at hN
      refine ⟨tri_wf fun hw => tri_eisner_take ?_, fun hi0 => tri_wf fun hw => tri_eisner_take ?_⟩
      · obtain ⟨k, hk0, hk1, hk2, hk3, _⟩ := hDn.s0
        unfold S_eisner_take
        simp (disch := first | omega | simp) [iv, bv, hnei]
        unfold S_eisner_take_C2
        simp (disch := first | omega | simp) [hbox, ho3, oR_get, hi3, tR_get, hin, hjn, hk0]
        refine ca_of (by kernel_rfl) ((ih i k true _ H (by simp; omega) (by omega) (by omega) (fun _ => hk1) hE).1) ?_
        rintro r2 H2 ⟨u1, hE2, hnx2, hP1⟩
        refine ca_of (by kernel_rfl) ((ih k j false _ H2 (by simp; omega) hk2 hjn (fun h => by cases h) hE2).1) ?_
        rintro r3 H3 ⟨u2, hE3, hnx3, hP2⟩
        exact rt_refl ⟨u2, hE3, by omega, comb_shut0 hk1 hk2 hk3 hP1 hP2⟩ (by omega)
      · obtain ⟨k, hk0, hk1, hk2, hk3, _⟩ := hDn.s1
        unfold S_eisner_take
        simp (disch := first | omega | simp) [iv, bv, hnei]
        unfold S_eisner_take_C2
        simp (disch := first | omega | simp) [hbox, ho3, oR_get, hi3, tR_get, hin, hjn, hk0]
        refine ca_of (by kernel_rfl) ((ih i k false _ H (by simp; omega) hk1 (by omega) (fun h => by cases h) hE).2 hi0) ?_
        rintro r2 H2 ⟨u1, hE2, hnx2, hP1⟩
        refine ca_of (by kernel_rfl) ((ih k j true _ H2 (by simp; omega) (by omega) hjn (fun _ => hk2) hE2).2 (by omega)) ?_
        rintro r3 H3 ⟨u2, hE3, hnx3, hP2⟩
        exact rt_refl ⟨u2, hE3, by omega, comb_shut1 hk1 hk2 hk3 hP1 hP2⟩ (by omega)
  · have hij2 : i = j := by omega
    subst hij2
    cases o with
    | true => exact absurd (ho rfl) hlt
    | false =>
      refine ⟨tri_wf fun hw => tri_eisner_take ?_, fun hi0 => tri_wf fun hw => tri_eisner_take ?_⟩
      · unfold S_eisner_take
        simp (disch := first | omega | simp) [iv, bv]
        exact rt_refl ⟨u, hE, Nat.le_refl _, post0_nil u hd hin⟩ (Nat.le_refl _)
      · unfold S_eisner_take
        simp (disch := first | omega | simp) [iv, bv]
        exact rt_refl ⟨u, hE, Nat.le_refl _, post1_nil u hd hin⟩ (Nat.le_refl _)
end Go.Proofs.Ytaepnmnoofigjaa
