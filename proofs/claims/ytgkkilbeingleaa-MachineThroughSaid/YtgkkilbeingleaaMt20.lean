/- Texts that the proof rests on, part 20: what each holds stands at its head. -/
import Derived.Test.YtgkkilbeingleaaMt19

/- The states of a machine numbered as they are reached, round by round. Plain. -/
namespace Go.Proofs.Ytgkkilbeingleaa
theorem sum_point {ks : List Int} (h : ks.Nodup) (x : Int) : (ks.map fun q => if x = q then 1 else 0).sum ≤ 1 := by
  induction ks with
  | nil => simp
  | cons k ks ih =>
    rw [List.nodup_cons] at h
    have := ih h.2
    rw [List.map_cons, List.sum_cons]
    by_cases e : x = k
    · subst e
      have hz : ∀ l : List Int, x ∉ l → (l.map fun q => if x = q then 1 else 0).sum = 0 := by
        intro l
        induction l with
        | nil => simp
        | cons y l ihl =>
          intro hx
          rw [List.map_cons, List.sum_cons, ihl (fun h => hx (by simp [h])), if_neg (fun e => hx (by simp [e]))]
      rw [if_pos rfl, hz ks h.1]
      exact Nat.le_refl 1
    · rw [if_neg e]; omega
theorem sum_add (ks : List Int) (f g : Int → Nat) : (ks.map fun q => f q + g q).sum = (ks.map f).sum + (ks.map g).sum := by
  induction ks with
  | nil => rfl
  | cons k ks ih => simp only [List.map_cons, List.sum_cons, ih]; omega
def jobsAt (P : Mac) (q : Int) : List Arc := P.arcs.filter fun y => decide (y.fr = q)
def nJ (P : Mac) (ks : List Int) : Nat := (ks.map fun q => (jobsAt P q).length).sum
theorem jobs_sum {ks : List Int} (h : ks.Nodup) : ∀ L : List Arc, (ks.map fun q => (L.filter fun y => decide (y.fr = q)).length).sum ≤ L.length
  | [] => by
    have : (ks.map fun q => (([] : List Arc).filter fun y => decide (y.fr = q)).length).sum = 0 := by
      induction ks with
      | nil => rfl
      | cons k ks ih => rw [List.map_cons, List.sum_cons, ih (List.nodup_cons.1 h).2]; rfl
    omega
  | y :: L => by
    have h1 := jobs_sum h L
    have h2 := sum_point h y.fr
    have h3 : (fun q => ((y :: L).filter fun y => decide (y.fr = q)).length) = fun q => (if y.fr = q then 1 else 0) + (L.filter fun y => decide (y.fr = q)).length := by
      funext q
      rw [List.filter_cons]
      by_cases e : y.fr = q <;> simp [e]
      omega
    rw [h3, sum_add, List.length_cons]
    omega
theorem nJ_le (P : Mac) {ks : List Int} (h : ks.Nodup) : nJ P ks ≤ P.arcs.length := jobs_sum h P.arcs
/-- as many different ones as there are below a bound -/
theorem nodup_int {n : Nat} : ∀ {l : List Int}, l.Nodup → (∀ q ∈ l, 0 ≤ q ∧ q < (n : Int)) → l.length ≤ n := by
  induction n with
  | zero =>
    intro l _ h
    cases l with
    | nil => simp
    | cons q l => have := h q (by simp); omega
  | succ n ih =>
    intro l hd h
    have h1 := ih (l := l.filter fun q => !decide (q = (n : Int))) (hd.sublist List.filter_sublist) fun q hq => by
      rw [List.mem_filter] at hq
      have := h q hq.1
      have hne : q ≠ (n : Int) := by simpa using hq.2
      omega
    have h2 : ∀ l : List Int, l.Nodup → l.length ≤ (l.filter fun q => !decide (q = (n : Int))).length + 1 := by
      intro l
      induction l with
      | nil => simp
      | cons q l ihl =>
        intro hd
        rw [List.nodup_cons] at hd
        by_cases e : q = (n : Int)
        · have : l.filter (fun q => !decide (q = (n : Int))) = l := List.filter_eq_self.2 fun a ha => by
            have : a ≠ (n : Int) := fun e2 => hd.1 (by rw [e, ← e2]; exact ha)
            simp [this]
          rw [List.filter_cons, this]
          simp [e]
        · have := ihl hd.2
          rw [List.filter_cons]
          simp [e]
          omega
    have := h2 l hd
    omega
structure NS where
  l : List Int
  arcs : List Arc
  c : Bool
def lA (l : List Int) (q : Int) : List Int := if q ∈ l then l else l ++ [q]
def NS.add (k : Nat) (s : NS) (y : Arc) : NS := ⟨lA s.l y.to, s.arcs ++ [⟨(k : Int), ((lA s.l y.to).idxOf y.to : Nat), y.inn, y.out, y.w⟩], s.c || decide (1000000 < y.w)⟩
def NS.round (P : Mac) (s : NS) (k : Nat) : NS := match s.l[k]? with
  | some q => (jobsAt P q).foldl (NS.add k) s
  | none => s
def iterN (P : Mac) : Nat → NS
  | 0 => ⟨[0], [], false⟩
  | k + 1 => (iterN P k).round P k
def finsN (P : Mac) (l : List Int) : List Fin_ := P.fins.filterMap fun g => if g.st ∈ l then some ⟨(l.idxOf g.st : Nat), g.w⟩ else none
theorem lA_mem (l : List Int) (q : Int) : q ∈ lA l q := by unfold lA; split <;> simp [*]
theorem lA_pre (l : List Int) (q : Int) : ∃ e, lA l q = l ++ e := by
  unfold lA; split
  · exact ⟨[], by simp⟩
  · exact ⟨_, rfl⟩
theorem lA_at (l : List Int) (q : Int) : (lA l q)[(lA l q).idxOf q]? = some q := by
  have h := List.idxOf_lt_length_iff.2 (lA_mem l q)
  rw [List.getElem?_eq_getElem h, List.getElem_idxOf h]
/-- later than s -/
def NS.Le (s t : NS) : Prop := (∃ e, t.l = s.l ++ e) ∧ (∃ e, t.arcs = s.arcs ++ e) ∧ (s.c = true → t.c = true)
theorem NS.Le.refl (s : NS) : s.Le s := ⟨⟨[], by simp⟩, ⟨[], by simp⟩, id⟩
theorem NS.Le.trans {s t u : NS} (h : s.Le t) (k : t.Le u) : s.Le u := by
  obtain ⟨⟨e1, h1⟩, ⟨f1, h2⟩, h3⟩ := h
  obtain ⟨⟨e2, k1⟩, ⟨f2, k2⟩, k3⟩ := k
  exact ⟨⟨e1 ++ e2, by rw [k1, h1, List.append_assoc]⟩, ⟨f1 ++ f2, by rw [k2, h2, List.append_assoc]⟩, fun h => k3 (h3 h)⟩
theorem NS.Le.at_ {s t : NS} (h : s.Le t) {k : Nat} {q : Int} (hk : s.l[k]? = some q) : t.l[k]? = some q := by
  obtain ⟨⟨e, h1⟩, _⟩ := h
  rw [h1, List.getElem?_append_left (List.getElem?_eq_some_iff.1 hk).1]; exact hk
theorem NS.Le.arc {s t : NS} (h : s.Le t) {a : Arc} (ha : a ∈ s.arcs) : a ∈ t.arcs := by
  obtain ⟨_, ⟨e, h1⟩, _⟩ := h
  rw [h1]; exact List.mem_append_left _ ha
theorem NS.add_le (k : Nat) (s : NS) (y : Arc) : s.Le (s.add k y) := ⟨lA_pre _ _, ⟨_, rfl⟩, fun h => by unfold NS.add; simp [h]⟩
theorem NS.fold_le (k : Nat) : ∀ (L : List Arc) (s : NS), s.Le (L.foldl (NS.add k) s)
  | [], s => .refl s
  | y :: L, s => (NS.add_le k s y).trans (NS.fold_le k L _)
theorem NS.round_le (P : Mac) (s : NS) (k : Nat) : s.Le (s.round P k) := by
  unfold NS.round
  split
  · exact NS.fold_le k _ s
  · exact .refl s
theorem iter_le (P : Mac) (k : Nat) : ∀ n, (iterN P k).Le (iterN P (k + n))
  | 0 => .refl _
  | n + 1 => (iter_le P k n).trans (NS.round_le P _ _)
/-- what holds of what is under way -/
structure NInv (P : Mac) (s : NS) : Prop where
  zero : s.l[0]? = some 0
  nd : s.l.Nodup
  rg : ∀ q ∈ s.l, 0 ≤ q ∧ q < P.states
  arcs : ∀ a ∈ s.arcs, ∃ y ∈ P.arcs, 0 ≤ a.fr ∧ 0 ≤ a.to ∧ s.l[a.fr.toNat]? = some y.fr ∧ s.l[a.to.toNat]? = some y.to ∧ a.inn = y.inn ∧ a.out = y.out ∧ a.w = y.w
  cost : s.c = false → ∀ a ∈ s.arcs, a.w ≤ 1000000
theorem lA_nodup {l : List Int} {q : Int} (h : l.Nodup) : (lA l q).Nodup := by
  unfold lA
  split
  · exact h
  · rename_i hq
    exact List.nodup_append.2 ⟨h, by simp, fun x hx y hy e => by simp at hy; subst hy; subst e; exact hq hx⟩
theorem NInv.add {P : Mac} {s : NS} {k : Nat} {y : Arc} (h : NInv P s) (hP : P.Fit) (hy : y ∈ P.arcs) (hk : s.l[k]? = some y.fr) : NInv P (s.add k y) := by
  have hle := NS.add_le k s y
  have hb := hP.2.1 y hy
  refine ⟨hle.at_ h.zero, lA_nodup h.nd, fun q hq => ?_, fun a ha => ?_, fun hc a ha => ?_⟩
  · unfold NS.add lA at hq
    dsimp only at hq
    split at hq
    · exact h.rg q hq
    · rcases List.mem_append.1 hq with hq | hq
      · exact h.rg q hq
      · simp at hq; subst hq; omega
  · rcases List.mem_append.1 (show a ∈ s.arcs ++ [_] from ha) with ha | ha
    · obtain ⟨y', q1, q2, q3, q4, q5, q6⟩ := h.arcs a ha
      exact ⟨y', q1, q2, q3, hle.at_ q4, hle.at_ q5, q6⟩
    · rw [List.mem_singleton] at ha
      subst ha
      refine ⟨y, hy, Int.natCast_nonneg _, Int.natCast_nonneg _, ?_, ?_, rfl, rfl, rfl⟩
      · exact hle.at_ hk
      · exact lA_at s.l y.to
  · have hc' : s.c = false ∧ ¬ 1000000 < y.w := by unfold NS.add at hc; simpa using hc
    rcases List.mem_append.1 (show a ∈ s.arcs ++ [_] from ha) with ha | ha
    · exact h.cost hc'.1 a ha
    · rw [List.mem_singleton] at ha
      subst ha
      exact Int.not_lt.1 hc'.2
theorem NInv.fold {P : Mac} {k : Nat} {q : Int} (hP : P.Fit) : ∀ (L : List Arc) (s : NS), NInv P s → (∀ y ∈ L, y ∈ P.arcs ∧ y.fr = q) → s.l[k]? = some q → NInv P (L.foldl (NS.add k) s) ∧ ∀ y ∈ L, ∃ k' : Nat, (L.foldl (NS.add k) s).l[k']? = some y.to ∧ (⟨(k : Int), (k' : Int), y.inn, y.out, y.w⟩ : Arc) ∈ (L.foldl (NS.add k) s).arcs
  | [], s, h, _, _ => ⟨h, by simp⟩
  | y :: L, s, h, hL, hk => by
    obtain ⟨y1, y2⟩ := hL y (by simp)
    have hk' := (NS.add_le k s y).at_ hk
    obtain ⟨q1, q2⟩ := NInv.fold hP L (s.add k y) (h.add hP y1 (by rw [y2]; exact hk)) (fun z hz => hL z (by simp [hz])) hk'
    refine ⟨q1, fun z hz => ?_⟩
    rcases List.mem_cons.1 hz with rfl | hz
    · exact ⟨_, (NS.fold_le k L _).at_ (lA_at s.l z.to), (NS.fold_le k L _).arc (List.mem_append_right _ (by simp))⟩
    · exact q2 z hz
theorem jobs_mem {P : Mac} {q : Int} {y : Arc} : y ∈ jobsAt P q ↔ y ∈ P.arcs ∧ y.fr = q := by unfold jobsAt; simp
theorem fold_len (k : Nat) : ∀ (L : List Arc) (s : NS), (L.foldl (NS.add k) s).arcs.length = s.arcs.length + L.length
  | [], s => by simp
  | y :: L, s => by
    rw [List.foldl_cons, fold_len k L]
    have : (s.add k y).arcs.length = s.arcs.length + 1 := by unfold NS.add; simp
    rw [this, List.length_cons]; omega
theorem iter_inv {P : Mac} (hP : P.Fit) : ∀ k, NInv P (iterN P k) ∧ (∀ j, j < k → ∀ y ∈ P.arcs, (iterN P k).l[j]? = some y.fr → ∃ k' : Nat, (iterN P k).l[k']? = some y.to ∧ (⟨(j : Int), (k' : Int), y.inn, y.out, y.w⟩ : Arc) ∈ (iterN P k).arcs) ∧ (iterN P k).arcs.length = nJ P ((iterN P k).l.take k)
  | 0 => ⟨⟨rfl, by simp [iterN], fun q hq => by simp [iterN] at hq; subst hq; have := hP.1; omega, fun a ha => (by cases ha), fun _ a ha => (by cases ha)⟩, fun j hj => (by omega), rfl⟩
  | k + 1 => by
    obtain ⟨h1, h2, h3⟩ := iter_inv hP k
    have hle : (iterN P k).Le (iterN P (k + 1)) := NS.round_le P _ _
    have hst : iterN P (k + 1) = (iterN P k).round P k := rfl
    cases hk : (iterN P k).l[k]? with
    | none =>
      have he : iterN P (k + 1) = iterN P k := by rw [hst]; unfold NS.round; rw [hk]
      rw [he]
      refine ⟨h1, fun j hj y hy hl => ?_, ?_⟩
      · have : j ≠ k := fun e => by subst e; rw [hk] at hl; cases hl
        exact h2 j (by omega) y hy hl
      · have hl := List.getElem?_eq_none_iff.1 hk
        rw [h3, List.take_of_length_le hl, List.take_of_length_le (by omega)]
    | some q =>
      have he : iterN P (k + 1) = (jobsAt P q).foldl (NS.add k) (iterN P k) := by rw [hst]; unfold NS.round; rw [hk]
      obtain ⟨g1, g2⟩ := NInv.fold (k := k) (q := q) hP (jobsAt P q) _ h1 (fun y hy => jobs_mem.1 hy) hk
      rw [← he] at g1 g2
      refine ⟨g1, fun j hj y hy hl => ?_, ?_⟩
      · by_cases e : j = k
        · subst e
          rw [hle.at_ hk] at hl
          injection hl with hl
          exact g2 y (jobs_mem.2 ⟨hy, hl.symm⟩)
        · obtain ⟨i, hi⟩ : ∃ i, (iterN P k).l[j]? = some i := ⟨_, List.getElem?_eq_getElem (by have := (List.getElem?_eq_some_iff.1 hk).1; omega)⟩
          have hi2 := hle.at_ hi
          rw [hl] at hi2; injection hi2 with hi2; subst hi2
          obtain ⟨k', q1, q2⟩ := h2 j (by omega) y hy hi
          exact ⟨k', hle.at_ q1, hle.arc q2⟩
      · obtain ⟨⟨e, hp⟩, _⟩ := hle
        have hlt := (List.getElem?_eq_some_iff.1 hk).1
        have ht : (iterN P (k + 1)).l.take (k + 1) = (iterN P k).l.take k ++ [q] := by
          rw [hp, List.take_append_of_le_length (by omega), List.take_add_one, hk]; rfl
        rw [ht]
        have : nJ P ((iterN P k).l.take k ++ [q]) = nJ P ((iterN P k).l.take k) + (jobsAt P q).length := by unfold nJ; simp
        rw [this, ← h3, he, fold_len]
theorem iter_stop {P : Mac} {k : Nat} (h : (iterN P k).l.length ≤ k) : ∀ n, iterN P (k + n) = iterN P k
  | 0 => rfl
  | n + 1 => by
    have ih := iter_stop h n
    show (iterN P (k + n)).round P (k + n) = _
    rw [ih]
    unfold NS.round
    rw [List.getElem?_eq_none (by omega)]
theorem iter_len {P : Mac} (hP : P.Fit) (k : Nat) : (iterN P k).l.length ≤ P.states.toNat := by
  obtain ⟨h, _⟩ := iter_inv hP k
  exact nodup_int h.nd fun q hq => by have := h.rg q hq; omega
theorem iter_arcs {P : Mac} (hP : P.Fit) (k : Nat) : (iterN P k).arcs.length ≤ P.arcs.length := by
  obtain ⟨h, _, h3⟩ := iter_inv hP k
  rw [h3]
  exact nJ_le P (h.nd.sublist (List.take_sublist _ _))
/-- all is numbered -/
def endN (P : Mac) : NS := iterN P P.states.toNat
theorem end_of {P : Mac} (hP : P.Fit) {k : Nat} (h : (iterN P k).l.length ≤ k) : iterN P k = endN P := by
  unfold endN
  rcases Nat.le_total k P.states.toNat with q | q
  · rw [show P.states.toNat = k + (P.states.toNat - k) by omega, iter_stop h]
  · have := iter_stop (P := P) (k := P.states.toNat) (iter_len hP _) (k - P.states.toNat)
    rw [show P.states.toNat + (k - P.states.toNat) = k by omega] at this
    exact this
theorem end_arcs {P : Mac} (hP : P.Fit) (k : Nat) : (iterN P k).arcs.length ≤ (endN P).arcs.length := by
  rcases Nat.le_total k P.states.toNat with q | q
  · obtain ⟨_, ⟨e, h⟩, _⟩ := iter_le P k (P.states.toNat - k)
    rw [show k + (P.states.toNat - k) = P.states.toNat by omega] at h
    unfold endN
    rw [h, List.length_append]; omega
  · have := iter_stop (P := P) (k := P.states.toNat) (iter_len hP _) (k - P.states.toNat)
    rw [show P.states.toNat + (k - P.states.toNat) = k by omega] at this
    rw [this]; exact Nat.le_refl _
def macN (P : Mac) : Mac := ⟨(endN P).l.length, (endN P).arcs, finsN P (endN P).l⟩
open Classical in
noncomputable def costlyN (P : Mac) : Bool := (endN P).c || decide (∃ f ∈ finsN P (endN P).l, 1000000 < f.w)
theorem fins_mem {P : Mac} {l : List Int} {f : Fin_} : f ∈ finsN P l ↔ ∃ g ∈ P.fins, g.st ∈ l ∧ f = ⟨(l.idxOf g.st : Nat), g.w⟩ := by
  unfold finsN
  rw [List.mem_filterMap]
  constructor
  · rintro ⟨g, hg, h⟩
    by_cases hm : g.st ∈ l
    · rw [if_pos hm] at h; injection h with h; exact ⟨g, hg, hm, h.symm⟩
    · rw [if_neg hm] at h; cases h
  · rintro ⟨g, hg, hm, rfl⟩
    exact ⟨g, hg, by rw [if_pos hm]⟩
theorem idx_at {l : List Int} {q : Int} (h : q ∈ l) : l[l.idxOf q]? = some q := by
  have h := List.idxOf_lt_length_iff.2 h
  rw [List.getElem?_eq_getElem h, List.getElem_idxOf h]
theorem idx_of {l : List Int} {q : Int} {k : Nat} (hn : l.Nodup) (h : l[k]? = some q) : l.idxOf q = k := by
  have hm := List.mem_of_getElem? h
  have h1 := idx_at hm
  have hk := (List.getElem?_eq_some_iff.1 h).1
  have hi := List.idxOf_lt_length_iff.2 hm
  have e1 : l[l.idxOf q] = l[k] := by
    have := (List.getElem?_eq_some_iff.1 h1).2
    have h' := (List.getElem?_eq_some_iff.1 h).2
    rw [this, h']
  have hp := List.pairwise_iff_getElem.1 hn
  rcases Nat.lt_trichotomy (l.idxOf q) k with c | c | c
  · exact absurd e1 (hp _ _ hi hk c)
  · exact c
  · exact absurd e1.symm (hp _ _ hk hi c)
theorem num_end {P : Mac} (hP : P.Fit) : Num P (macN P) (endN P).l := by
  obtain ⟨h1, h2, h3⟩ := iter_inv hP P.states.toNat
  have hl := iter_len hP P.states.toNat
  refine ⟨h1.zero, h1.arcs, fun y hy k hk => h2 k (by have := (List.getElem?_eq_some_iff.1 hk).1; unfold endN at this; omega) y hy hk, fun f hf => ?_, fun g hg k hk => ?_⟩
  · obtain ⟨g, hg, hm, rfl⟩ := fins_mem.1 hf
    exact ⟨g, hg, Int.natCast_nonneg _, idx_at hm, rfl⟩
  · exact fins_mem.2 ⟨g, hg, List.mem_of_getElem? hk, by rw [show (endN P).l.idxOf g.st = k from idx_of (show (endN P).l.Nodup from h1.nd) hk]⟩
theorem fins_nodup {P : Mac} (hn : (P.fins.map Fin_.st).Nodup) (l : List Int) : ((finsN P l).map Fin_.st).Nodup := by
  unfold finsN
  have key : ∀ L : List Fin_, (L.map Fin_.st).Nodup → ((L.filterMap fun g => if g.st ∈ l then some (⟨(l.idxOf g.st : Nat), g.w⟩ : Fin_) else none).map Fin_.st).Nodup := by
    intro L
    induction L with
    | nil => simp
    | cons g L ih =>
      intro hn
      rw [List.map_cons, List.nodup_cons] at hn
      rw [List.filterMap_cons]
      by_cases hm : g.st ∈ l
      · simp only [if_pos hm]
        rw [List.map_cons, List.nodup_cons]
        refine ⟨fun hx => ?_, ih hn.2⟩
        obtain ⟨f, hf, e⟩ := List.mem_map.1 hx
        obtain ⟨g', hg', e'⟩ := List.mem_filterMap.1 hf
        by_cases hm' : g'.st ∈ l
        · rw [if_pos hm'] at e'
          injection e' with e'
          subst e'
          dsimp only at e
          have h1 := idx_at hm
          have h2 := idx_at hm'
          have : l.idxOf g'.st = l.idxOf g.st := by omega
          rw [this, h1] at h2
          injection h2 with h2
          exact hn.1 (by rw [h2]; exact List.mem_map_of_mem hg')
        · rw [if_neg hm'] at e'; cases e'
      · simp only [if_neg hm]; exact ih hn.2
  exact key P.fins hn
/-- the numbered machine is one that is right -/
theorem macN_ok {P : Mac} (hP : P.Fit) (hs : P.states ≤ 3000) (hb : ∀ y ∈ P.arcs, 0 ≤ y.inn ∧ y.inn ≤ 60 ∧ 0 ≤ y.out ∧ y.out ≤ 60) (hn : (P.fins.map Fin_.st).Nodup) (ha : (endN P).arcs.length ≤ 20000) (hc : costlyN P = false) : (macN P).Ok := by
  obtain ⟨h1, h2, h3⟩ := iter_inv hP P.states.toNat
  have hl := iter_len hP P.states.toNat
  unfold costlyN at hc
  rw [Bool.or_eq_false_iff] at hc
  have hc2 : ¬ ∃ f ∈ finsN P (endN P).l, 1000000 < f.w := by simpa using hc.2
  have hpos : 1 ≤ (endN P).l.length := by
    have := (List.getElem?_eq_some_iff.1 h1.zero).1
    unfold endN; omega
  have hfr : ∀ f ∈ finsN P (endN P).l, 0 ≤ f.st ∧ f.st < ((endN P).l.length : Int) := fun f hf => by
    obtain ⟨g, hg, hm, rfl⟩ := fins_mem.1 hf
    have := List.idxOf_lt_length_iff.2 hm
    dsimp only; omega
  have hP1 := hP.1
  refine ⟨?_, ?_, ?_, ?_, fun a hA => ?_, fun f hf => ?_, fins_nodup hn _⟩
  · show (1 : Int) ≤ ((endN P).l.length : Int); omega
  · show ((endN P).l.length : Int) ≤ 3000
    unfold endN; omega
  · show ((endN P).arcs.length : Int) ≤ 20000; omega
  · show ((finsN P (endN P).l).length : Int) ≤ ((endN P).l.length : Int)
    have := nodup_int (n := (endN P).l.length) (fins_nodup hn (endN P).l) (fun q hq => by
      obtain ⟨f, hf, rfl⟩ := List.mem_map.1 hq
      exact hfr f hf)
    rw [List.length_map] at this
    omega
  · obtain ⟨y, hy, q1, q2, q3, q4, q5, q6, q7⟩ := h1.arcs a hA
    have r1 := (List.getElem?_eq_some_iff.1 q3).1
    have r2 := (List.getElem?_eq_some_iff.1 q4).1
    have r3 := hb y hy
    have r4 := hP.2.1 y hy
    have r5 := h1.cost hc.1 a hA
    have e : (macN P).states = ((iterN P P.states.toNat).l.length : Int) := rfl
    rw [e]
    omega
  · have r1 := hfr f hf
    have e : (macN P).states = ((endN P).l.length : Int) := rfl
    rw [e]
    have r2 : f.w ≤ 1000000 := Int.not_lt.1 fun h => hc2 ⟨f, hf, h⟩
    obtain ⟨g, hg, hm, rfl⟩ := fins_mem.1 hf
    have r3 := hP.2.2 g hg
    dsimp only at r1 r2 ⊢
    omega
end Go.Proofs.Ytgkkilbeingleaa

/- The product of two machines, numbered: what is done at each pair. Plain. -/
namespace Go.Proofs.Ytgkkilbeingleaa
def J1 (b : Mac) (j : Nat) (f : Arc) : List Arc := if f.out = 0 then [arc1 b.states f (j : Int)] else ((outs b.arcs j).filter fun g => decide (g.inn = f.out)).map (arc2 b.states f)
def J2 (b : Mac) (i j : Nat) : List Arc := ((outs b.arcs j).filter fun g => decide (g.inn = 0)).map fun g => arc3 b.states g (i : Int)
theorem range_one (n j : Nat) (h : j < n) : (List.range n).filter (fun t => decide (t = j)) = [j] := by
  induction n with
  | zero => omega
  | succ n ih =>
    rw [List.range_succ, List.filter_append]
    by_cases e : j = n
    · subst e
      have : (List.range j).filter (fun t => decide (t = j)) = [] := List.filter_eq_nil_iff.2 fun t ht => by
        have := List.mem_range.1 ht
        simp; omega
      rw [this]; simp
    · rw [ih (by omega)]
      have : ¬ n = j := fun h => e h.symm
      simp [this]
theorem flat_outs {α : Type} (F G : Arc → List α) (i : Nat) : ∀ L : List Arc, (∀ f ∈ L, F f = if f.fr = (i : Int) then G f else []) → L.flatMap F = (outs L i).flatMap G
  | [], _ => rfl
  | f :: L, h => by
    have h1 := h f (by simp)
    have h2 := flat_outs F G i L fun g hg => h g (by simp [hg])
    rw [List.flatMap_cons, h1, h2]
    unfold outs
    rw [List.filter_cons]
    by_cases e : f.fr = (i : Int) <;> simp [e]
theorem jobs_eq {a b : Mac} (ha : a.Ok) (hb : b.Ok) {i j : Nat} (hi : (i : Int) < a.states) (hj : (j : Int) < b.states) : jobsAt (prodM a b) ((i : Int) * b.states + (j : Int)) = (outs a.arcs i).flatMap (J1 b j) ++ J2 b i j := by
  have oa := ha.2.2.2.2.1
  have ob := hb.2.2.2.2.1
  unfold jobsAt
  have hpr : (prodM a b).arcs = a.arcs.flatMap (fam12 b) ++ b.arcs.flatMap (fam3 a b) := rfl
  rw [hpr, List.filter_append, List.filter_flatMap, List.filter_flatMap]
  congr 1
  · refine flat_outs _ _ i _ fun f hf => ?_
    have of := oa f hf
    unfold fam12 J1
    by_cases h0 : f.out = 0
    · rw [if_pos h0, if_pos h0, List.filter_map]
      by_cases e : f.fr = (i : Int)
      · rw [if_pos e]
        have hfn : (List.range b.states.toNat).filter ((fun y : Arc => decide (y.fr = (i : Int) * b.states + (j : Int))) ∘ fun t : Nat => arc1 b.states f (t : Int)) = (List.range b.states.toNat).filter fun t => decide (t = j) := by
          refine List.filter_congr fun t _ => ?_
          simp only [Function.comp, arc1, e]
          apply decide_eq_decide.2
          omega
        rw [hfn, range_one _ _ (by omega)]
        rfl
      · rw [if_neg e]
        have : (List.range b.states.toNat).filter ((fun y : Arc => decide (y.fr = (i : Int) * b.states + (j : Int))) ∘ fun t : Nat => arc1 b.states f (t : Int)) = [] := List.filter_eq_nil_iff.2 fun t ht => by
          have ht := List.mem_range.1 ht
          intro h
          have h : f.fr * b.states + (t : Int) = (i : Int) * b.states + (j : Int) := of_decide_eq_true h
          exact e (pair_inj (by omega) (by omega) (by omega) hj h).1
        rw [this]; rfl
    · rw [if_neg h0, if_neg h0, List.filter_map]
      by_cases e : f.fr = (i : Int)
      · rw [if_pos e]
        congr 1
        unfold outs
        rw [List.filter_filter, List.filter_filter]
        refine List.filter_congr fun g hg => ?_
        simp only [Function.comp, arc2, e]
        rw [Bool.and_comm]
        congr 1
        apply decide_eq_decide.2
        omega
      · rw [if_neg e]
        rw [List.map_eq_nil_iff, List.filter_eq_nil_iff]
        intro g hg
        have og := ob g (List.mem_filter.1 hg).1
        intro h
        have h : f.fr * b.states + g.fr = (i : Int) * b.states + (j : Int) := of_decide_eq_true h
        exact e (pair_inj (by omega) (by omega) (by omega) hj h).1
  · unfold J2
    have : ∀ L : List Arc, (∀ g ∈ L, g ∈ b.arcs) → L.flatMap (fun g => (fam3 a b g).filter fun y => decide (y.fr = (i : Int) * b.states + (j : Int))) = ((outs L j).filter fun g => decide (g.inn = 0)).map fun g => arc3 b.states g (i : Int) := by
      intro L
      induction L with
      | nil => intro _; rfl
      | cons g L ih =>
        intro hL
        have og := ob g (hL g (by simp))
        rw [List.flatMap_cons, ih fun x hx => hL x (by simp [hx])]
        unfold fam3
        by_cases h0 : g.inn = 0
        · rw [if_pos h0, List.filter_map]
          by_cases e : g.fr = (j : Int)
          · have hfn : (List.range a.states.toNat).filter ((fun y : Arc => decide (y.fr = (i : Int) * b.states + (j : Int))) ∘ fun s : Nat => arc3 b.states g (s : Int)) = (List.range a.states.toNat).filter fun t => decide (t = i) := by
              refine List.filter_congr fun t _ => ?_
              simp only [Function.comp, arc3, e]
              apply decide_eq_decide.2
              constructor
              · intro h
                have := (pair_inj (by omega) hj (by omega) hj h).1
                omega
              · intro h; subst h; rfl
            rw [hfn, range_one _ _ (by omega)]
            unfold outs
            simp [e, h0]
          · have : (List.range a.states.toNat).filter ((fun y : Arc => decide (y.fr = (i : Int) * b.states + (j : Int))) ∘ fun s : Nat => arc3 b.states g (s : Int)) = [] := List.filter_eq_nil_iff.2 fun t _ => by
              intro h
              have h : (t : Int) * b.states + g.fr = (i : Int) * b.states + (j : Int) := of_decide_eq_true h
              exact e (pair_inj (by omega) (by omega) (by omega) hj h).2
            rw [this]
            unfold outs
            simp [e]
        · rw [if_neg h0]
          unfold outs
          rw [List.filter_cons]
          by_cases e : g.fr = (j : Int) <;> simp [e, h0]
    exact this b.arcs fun _ h => h
theorem prod_arc {a b : Mac} (ha : a.Ok) (hb : b.Ok) {y : Arc} (hy : y ∈ (prodM a b).arcs) : 0 ≤ y.inn ∧ y.inn ≤ 60 ∧ 0 ≤ y.out ∧ y.out ≤ 60 := by
  have oa := ha.2.2.2.2.1
  have ob := hb.2.2.2.2.1
  rcases List.mem_append.1 (show y ∈ a.arcs.flatMap (fam12 b) ++ b.arcs.flatMap (fam3 a b) from hy) with h | h
  · obtain ⟨f, hf, h⟩ := List.mem_flatMap.1 h
    have of := oa f hf
    unfold fam12 at h
    split at h
    · obtain ⟨t, _, rfl⟩ := List.mem_map.1 h
      unfold arc1; dsimp only; omega
    · obtain ⟨g, hg, rfl⟩ := List.mem_map.1 h
      have og := ob g (List.mem_filter.1 hg).1
      unfold arc2; dsimp only; omega
  · obtain ⟨g, hg, h⟩ := List.mem_flatMap.1 h
    have og := ob g hg
    unfold fam3 at h
    split at h
    · obtain ⟨t, _, rfl⟩ := List.mem_map.1 h
      unfold arc3; dsimp only; omega
    · cases h
theorem flat_len2 {α β : Type} (F : α → List β) (n : Nat) : ∀ L : List α, (∀ x ∈ L, (F x).length ≤ n) → (L.flatMap F).length ≤ L.length * n
  | [], _ => by simp
  | x :: L, h => by
    have h1 := h x (by simp)
    have h2 := flat_len2 F n L fun y hy => h y (by simp [hy])
    rw [List.flatMap_cons, List.length_append, List.length_cons, Nat.add_mul]
    omega
/-- what is made of light machines is not too much -/
theorem prod_light {a b : Mac} (la : a.Light) (lb : b.Light) : (prodM a b).arcs.length ≤ 20000 ∧ (∀ y ∈ (prodM a b).arcs, y.w ≤ 1000000) ∧ ∀ f ∈ (prodM a b).fins, f.w ≤ 1000000 := by
  obtain ⟨a1, a2, a3, a4⟩ := la
  obtain ⟨b1, b2, b3, b4⟩ := lb
  refine ⟨?_, fun y hy => ?_, fun f hf => ?_⟩
  · have e : (prodM a b).arcs.length = (a.arcs.flatMap (fam12 b)).length + (b.arcs.flatMap (fam3 a b)).length := List.length_append
    have h1 := flat_len2 (fam12 b) 40 a.arcs fun f _ => by
      unfold fam12
      split
      · simp; omega
      · rw [List.length_map]
        have := List.length_filter_le (fun g => decide (g.inn = f.out)) b.arcs
        omega
    have h2 := flat_len2 (fam3 a b) 20 b.arcs fun g _ => by
      unfold fam3
      split
      · simp; omega
      · simp
    have h3 : a.arcs.length * 40 ≤ 40 * 40 := Nat.mul_le_mul_right _ a2
    have h4 : b.arcs.length * 20 ≤ 40 * 20 := Nat.mul_le_mul_right _ b2
    omega
  · rcases List.mem_append.1 (show y ∈ a.arcs.flatMap (fam12 b) ++ b.arcs.flatMap (fam3 a b) from hy) with h | h
    · obtain ⟨f, hf, h⟩ := List.mem_flatMap.1 h
      have of := a3 f hf
      unfold fam12 at h
      split at h
      · obtain ⟨t, _, rfl⟩ := List.mem_map.1 h
        unfold arc1; dsimp only; omega
      · obtain ⟨g, hg, rfl⟩ := List.mem_map.1 h
        have og := b3 g (List.mem_filter.1 hg).1
        unfold arc2; dsimp only; omega
    · obtain ⟨g, hg, h⟩ := List.mem_flatMap.1 h
      have og := b3 g hg
      unfold fam3 at h
      split at h
      · obtain ⟨t, _, rfl⟩ := List.mem_map.1 h
        unfold arc3; dsimp only; omega
      · cases h
  · obtain ⟨f1, h1, h⟩ := List.mem_flatMap.1 (show f ∈ a.fins.flatMap fun f => b.fins.map fun g => (⟨f.st * b.states + g.st, f.w + g.w⟩ : Fin_) from hf)
    obtain ⟨g, h2, rfl⟩ := List.mem_map.1 h
    have o1 := a4 f1 h1
    have o2 := b4 g h2
    dsimp only; omega
theorem fold_cost (k : Nat) : ∀ (L : List Arc) (s : NS), s.c = false → (∀ y ∈ L, y.w ≤ 1000000) → (L.foldl (NS.add k) s).c = false
  | [], s, h, _ => h
  | y :: L, s, h, hL => by
    have h1 := hL y (by simp)
    exact fold_cost k L (s.add k y) (by show (s.c || decide (1000000 < y.w)) = false; simp [h]; omega) fun z hz => hL z (by simp [hz])
theorem iter_cost {P : Mac} (h : ∀ y ∈ P.arcs, y.w ≤ 1000000) : ∀ k, (iterN P k).c = false
  | 0 => rfl
  | k + 1 => by
    show ((iterN P k).round P k).c = false
    unfold NS.round
    split
    · exact fold_cost k _ _ (iter_cost h k) fun y hy => h y (jobs_mem.1 hy).1
    · exact iter_cost h k
theorem cheapN {P : Mac} (h : ∀ y ∈ P.arcs, y.w ≤ 1000000) (hf : ∀ f ∈ P.fins, f.w ≤ 1000000) : costlyN P = false := by
  unfold costlyN
  rw [Bool.or_eq_false_iff]
  refine ⟨iter_cost h _, decide_eq_false ?_⟩
  rintro ⟨f, hf', hw⟩
  obtain ⟨g, hg, hm, rfl⟩ := fins_mem.1 hf'
  have := hf g hg
  dsimp only at hw
  omega
end Go.Proofs.Ytgkkilbeingleaa

/- Through: pairs of states, numbered; what a pair's number is. -/
namespace Go.Proofs.Ytgkkilbeingleaa
open Go.RowKit Go.Maps
def kv (i j : Int) : Value := .agg #[.int .i64 i, .int .i64 j]
theorem lawI2 : Keyed Try.prog 72 := Keyed.of_law (deep_law_laid laid (m := 3) (by omega) (of_decide_eq_true (by kernel_rfl)) (by kernel_rfl) (by kernel_rfl))
theorem cellsI2 : Try.prog.cellsOf 72 = 2 := by kernel_rfl
theorem typeI2 : Try.prog.keyType 72 = true := by kernel_rfl
theorem keyI2 {a b : Int} (h1 : I64 a) (h2 : I64 b) : (keyOf Try.prog 72 (kv a b)).isSome = true := by
  obtain ⟨d, hd⟩ := fuel3
  have w1 := h1.wf; have w2 := h2.wf
  unfold keyOf kv
  rw [Try.underlying72, hd]
  have hr : List.range 2 = [0, 1] := rfl
  simp [hr, typeI2, Value.formed, Value.cells, Program.keyLits, Try.underlying72, Try.underlying3, cellsI2, cellsInt, w1, w2]
/-- the numbers of pairs -/
def numF (B : Int) (l : List Int) : Value → Option AV
  | .agg xs => match xs.toList with
    | [.int .i64 i, .int .i64 j] => if 0 ≤ j ∧ j < B ∧ i * B + j ∈ l then some (iv (l.idxOf (i * B + j) : Nat)) else none
    | _ => none
  | _ => none
theorem numF_at {B : Int} {l : List Int} {i j : Int} (h1 : 0 ≤ j) (h2 : j < B) : numF B l (kv i j) = if i * B + j ∈ l then some (iv (l.idxOf (i * B + j) : Nat)) else none := by
  unfold numF kv
  simp [h1, h2]
theorem numF_put {B : Int} {l : List Int} {i j : Int} (h1 : 0 ≤ j) (h2 : j < B) (hn : i * B + j ∉ l) : putA (numF B l) (kv i j) (iv l.length) = numF B (l ++ [i * B + j]) := by
  funext v
  unfold putA
  by_cases hv : v = kv i j
  · rw [if_pos hv]
    subst hv
    rw [numF_at h1 h2, if_pos (by simp), List.idxOf_append, if_neg hn]
    simp
  · rw [if_neg hv]
    cases v with
    | agg xs =>
      unfold numF
      dsimp only
      split
      · rename_i i' j' hx
        have hne : ¬ (i' = i ∧ j' = j) := by
          rintro ⟨rfl, rfl⟩
          exact hv (by unfold kv; congr 1; exact Array.ext' hx)
        by_cases hr : 0 ≤ j' ∧ j' < B
        · have hq : i' * B + j' ≠ i * B + j := fun e => hne (pair_inj hr.1 hr.2 h1 h2 e)
          by_cases hm : i' * B + j' ∈ l
          · rw [if_pos ⟨hr.1, hr.2, hm⟩, if_pos ⟨hr.1, hr.2, by simp [hm]⟩, List.idxOf_append, if_pos hm]
          · rw [if_neg (fun h => hm h.2.2), if_neg (fun h => by
              have := h.2.2
              simp [hm, hq] at this)]
        · rw [if_neg (fun h => hr ⟨h.1, h.2.1⟩), if_neg (fun h => hr ⟨h.1, h.2.1⟩)]
      · rfl
    | _ => rfl
def pc (B q : Int) : List AV := [iv (q / B), iv (q % B)]
theorem pc_at {B i j : Int} (h1 : 0 ≤ j) (h2 : j < B) : pc B (i * B + j) = [iv i, iv j] := by
  unfold pc
  have e1 : (i * B + j) / B = i := by
    rw [Int.add_comm, Int.add_mul_ediv_right _ _ (by omega), Int.ediv_eq_zero_of_lt h1 h2, Int.zero_add]
  have e2 : (i * B + j) % B = j := by
    rw [Int.add_comm, Int.add_mul_emod_self_right, Int.emod_eq_of_lt h1 h2]
  rw [e1, e2]
theorem dt_pcs (B : Int) (l : List Int) : DtR (l.map (pc B)) := by
  intro e he a ha
  obtain ⟨c, _, rfl⟩ := List.mem_map.1 he
  simp only [pc, iv, List.mem_cons, List.not_mem_nil, or_false] at ha
  rcases ha with rfl | rfl <;> exact Dt.p _
structure ThN where
  X : Nat
  xb : Nat
  nb : Nat
  lb : Nat
  mp : Nat
/-- the pairs that are numbered so far, and the machine that is made of them, as they lie -/
structure ThAt (Bs H : AH) (B : Int) (n : ThN) (s : NS) (v : AV) : Prop where
  mk_ : MkAt Bs H n.X ⟨s.l.length, s.arcs, []⟩ s.c
  gx : H.get n.xb = some (.box 69 [.ptr n.X 0])
  gn : H.get n.nb = some (.box 73 [.mp n.mp])
  gl : H.get n.lb = some (.box 74 [v])
  gm : H.get n.mp = some (.map 72 s.l.length (numF B s.l))
  gr : Grows 72 2 Bs H v (s.l.map (pc B))
  bx : Bs.nx ≤ n.xb ∧ Bs.nx ≤ n.nb ∧ Bs.nx ≤ n.lb ∧ Bs.nx ≤ n.mp
theorem ThAt.lt {Bs H : AH} {B : Int} {n : ThN} {s : NS} {v : AV} (h : ThAt Bs H B n s v) (hw : WF H) : n.X < H.nx ∧ n.xb < H.nx ∧ n.nb < H.nx ∧ n.lb < H.nx ∧ n.mp < H.nx :=
  ⟨h.mk_.hx, (hw _ _ h.gx).1, (hw _ _ h.gn).1, (hw _ _ h.gl).1, (hw _ _ h.gm).1⟩
theorem ThAt.ne {Bs H : AH} {B : Int} {n : ThN} {s : NS} {v : AV} (h : ThAt Bs H B n s v) : n.X ≠ n.xb ∧ n.X ≠ n.nb ∧ n.X ≠ n.lb ∧ n.X ≠ n.mp ∧ n.xb ≠ n.nb ∧ n.xb ≠ n.lb ∧ n.xb ≠ n.mp ∧ n.nb ≠ n.lb ∧ n.nb ≠ n.mp ∧ n.lb ≠ n.mp := by
  obtain ⟨va, vf, hX, _, _⟩ := h.mk_.at_
  have hx := h.gx; have hn := h.gn; have hl := h.gl; have hm := h.gm
  refine ⟨?_, ?_, ?_, ?_, ?_, ?_, ?_, ?_, ?_, ?_⟩ <;> intro e
  · rw [e, hx] at hX; injection hX with hX; injection hX with hX; exact absurd hX (by decide)
  · rw [e, hn] at hX; injection hX with hX; injection hX with hX; exact absurd hX (by decide)
  · rw [e, hl] at hX; injection hX with hX; injection hX with hX; exact absurd hX (by decide)
  · rw [e, hm] at hX; cases hX
  · rw [e, hn] at hx; injection hx with hx; injection hx with hx; exact absurd hx (by decide)
  · rw [e, hl] at hx; injection hx with hx; injection hx with hx; exact absurd hx (by decide)
  · rw [e, hm] at hx; cases hx
  · rw [e, hl] at hn; injection hn with hn; injection hn with hn; exact absurd hn (by decide)
  · rw [e, hm] at hn; cases hn
  · rw [e, hm] at hl; cases hl
theorem ThAt.same {Bs H H' : AH} {B : Int} {n : ThN} {s : NS} {v : AV} (h : ThAt Bs H B n s v) (hwB : WF Bs) (hw : WF H) (hn : H.nx ≤ H'.nx) (hk : ∀ j, j < H.nx → H'.get j = H.get j) : ThAt Bs H' B n s v := by
  obtain ⟨l1, l2, l3, l4, l5⟩ := h.lt hw
  exact ⟨h.mk_.same hwB hn hk, by rw [hk _ l2]; exact h.gx, by rw [hk _ l3]; exact h.gn, by rw [hk _ l4]; exact h.gl, by rw [hk _ l5]; exact h.gm, h.gr.same hn fun j hj _ => hk j hj, h.bx⟩
def AtQ (Bs H : AH) (B : Int) (n : ThN) (s : NS) (v : AV) (q : Int) (r : AV) (H' : AH) : Prop :=
  r = iv ((lA s.l q).idxOf q : Nat) ∧ (∃ v', ThAt Bs H' B n ⟨lA s.l q, s.arcs, s.c⟩ v') ∧ H.nx ≤ H'.nx ∧ ∀ j o, j ≠ n.X → j ≠ n.lb → j ≠ n.mp → (∀ k, v ≠ .osl j 2 0 k) → H.get j = some o → H'.get j = some o
set_option maxHeartbeats 1000000 in
theorem c_at {Bs H : AH} {B : Int} {n : ThN} {s : NS} {v : AV} (hwB : WF Bs) (h : ThAt Bs H B n s v) {i j : Int} (hi : 0 ≤ i ∧ i ≤ 3000) (hj : 0 ≤ j ∧ j < B) (hB : B ≤ 3000) (hl : s.l.length < 1000000) :
    Tri Try.prog 40 [iv i, iv j, .ptr n.nb 0, .ptr n.lb 0, .ptr n.xb 0] H (AtQ Bs H B n s v (i * B + j)) := tri_wf fun hw => tri_machine_Through_fn1 (by
  have hml : maxLen = 9223372036854775807 := by decide
  obtain ⟨va, vf, hX, ga, gf⟩ := h.mk_.at_
  obtain ⟨l1, l2, l3, l4, l5⟩ := h.lt hw
  have hk := keyI2 (a := i) (b := j) (by unfold I64; omega) (by unfold I64; omega)
  have hgm := h.gm
  have hgn := h.gn
  have hf := numF_at (l := s.l) (i := i) hj.1 hj.2
  unfold kv at hk hf
  unfold S_machine_Through_fn1
  by_cases hm : i * B + j ∈ s.l
  · rw [if_pos hm] at hf
    simp (disch := first | omega | simp) [iv, hgn, hgm, put_get_ne, lawI2, hk, hf]
    have hla : lA s.l (i * B + j) = s.l := by unfold lA; rw [if_pos hm]
    have hkk : ∀ z1 z2 : AO, ∀ q, q < H.nx → (((H.up 5).put (H.nx + 3) z1).put (H.nx + 3) z2).get q = H.get q := fun z1 z2 q hq => by rw [AH.get_put_ne (by omega), AH.get_put_ne (by omega), up_get]
    refine rt_refl ⟨by rw [hla]; rfl, ⟨v, ?_⟩, by simp only [put_nx, up_nx]; omega, fun q o _ _ _ _ ho => by rw [hkk _ _ q (hw _ _ ho).1]; exact ho⟩ (by simp only [put_nx, up_nx]; omega)
    rw [hla]
    exact h.same hwB hw (by simp only [put_nx, up_nx]; omega) (hkk _ _)
  · rw [if_neg hm] at hf
    obtain ⟨e1, e2, e3, e4, e5, e6, e7, e8, e9, e10⟩ := h.ne
    have hgl := h.gl
    have hgx := h.gx
    obtain ⟨b1, b2, b3, b4⟩ := h.bx
    have hbX := h.mk_.bx
    simp (disch := first | omega | simp) [iv, hgn, hgm, put_get_ne, lawI2, hk, hf, hgl, h.gr.len, e10]
    refine ⟨by omega, ?_⟩
    have hput := numF_put (l := s.l) hj.1 hj.2 hm
    unfold kv iv at hput
    rw [hput]
    generalize hMe : AH.put _ (H.nx + 5 + 4 + 2) _ = M
    have hMn : M.nx = H.nx + 14 := by rw [← hMe]; rfl
    have hMk : ∀ q, q < H.nx → q ≠ n.mp → M.get q = H.get q := fun q hq hqm => by rw [← hMe, AH.get_put_ne (by omega), up_get, AH.get_put_ne hqm, up_get, AH.get_put_ne (by omega), AH.get_put_ne (by omega), up_get]
    have hMx : M.get (H.nx + 5 + 4 + 2) = some (.row 72 2 [[.p (.int .i64 i), .p (.int .i64 j)]]) := by rw [← hMe]; exact put_get _ _
    have hMm : M.get n.mp = some (.map 72 (s.l.length + 1) (numF B (s.l ++ [i * B + j]))) := by rw [← hMe, AH.get_put_ne (by omega), up_get, put_get]
    have hMle : Bs.le M := by
      rw [← hMe]
      exact AH.le.put hwB (by omega) (AH.le.up (AH.le.put hwB (by omega) (AH.le.up (AH.le.put hwB (by omega) (AH.le.put hwB (by omega) (AH.le.up h.mk_.le))))))
    clear hMe
    have hrow : ∀ q k, v = .osl q 2 0 k → q < H.nx ∧ ∃ xs, H.get q = some (.row 72 2 xs) := fun q k e => by
      obtain ⟨_, g2, g3⟩ := grows_at h.gr e
      exact ⟨g2, g3⟩
    refine Grows.app (t := 72) hwB (h.gr.same (by omega) fun q hq ⟨k, e⟩ => hMk q hq fun c => by
      obtain ⟨_, xs, hr⟩ := hrow q k e
      rw [c, hgm] at hr; cases hr) hMle (by omega) (by omega) (ys := [pc B (i * B + j)]) ?_ (dt_pcs B [_]) ?_ ?_ fun v' H2 g2 l2 n2 k2 hfr => ?_
    · rw [elF_osl, hMx, pc_at hj.1 hj.2]; rfl
    · simp; omega
    · simp; omega
    obtain ⟨n', hn'⟩ := hfr
    have hold : ∀ q, q < H.nx → q ≠ n.mp → (∀ k, v ≠ .osl q 2 0 k) → H2.get q = H.get q := fun q hq hqm hv => by
      rw [k2 q (by omega) hv, hMk q hq hqm]
    have hbox : ∀ q t cs, H.get q = some (.box t cs) → H2.get q = some (.box t cs) := fun q t cs ho => by
      rw [hold q (hw _ _ ho).1 (fun c => by rw [c, hgm] at ho; cases ho) (fun k e => by
        obtain ⟨_, xs, hr⟩ := hrow q k e
        rw [ho] at hr; cases hr)]
      exact ho
    have hl2 := hbox _ _ _ hgl
    have hx2 := hbox _ _ _ hgx
    have hX2 := hbox _ _ _ hX
    have hm2 : H2.get n.mp = _ := (k2 n.mp (by omega) (fun k e => by
        obtain ⟨_, xs, hr⟩ := hrow n.mp k e
        rw [hgm] at hr; cases hr)).trans hMm
    have hpart : AV.part v' = true := by rw [hn']; rfl
    have hcell : AV.cells v' = [v'] := by rw [hn']; rfl
    have hwr : IntKind.i64.wrap ((s.l.length : Int) + 1) = ((s.l.length + 1 : Nat) : Int) := by rw [IntKind.wrap_i64]; omega
    unfold iv bv at hX2
    simp (disch := first | omega | simp) [iv, hl2, hx2, hX2, hpart, hcell, put_get_ne, hwr, e3, Ne.symm e6]
    have hla : lA s.l (i * B + j) = s.l ++ [i * B + j] := by unfold lA; rw [if_neg hm]
    have hid : (lA s.l (i * B + j)).idxOf (i * B + j) = s.l.length := by rw [hla, List.idxOf_append, if_neg hm]; simp
    generalize hNe : AH.put _ n.X _ = N
    have hNn : N.nx = H2.nx + 10 := by rw [← hNe]; rfl
    have hN : ∀ q, q ≠ n.X → q ≠ n.lb → N.get q = H2.get q := fun q c1 c2 => by rw [← hNe, AH.get_put_ne c1, up_get, AH.get_put_ne c2]
    have hNX : N.get n.X = some (.box 71 [.p (.int .i64 ((s.l.length : Int) + 1)), va, vf, .p (.bool s.c)]) := by rw [← hNe, put_get]
    have hNl : N.get n.lb = some (.box 74 [v']) := by rw [← hNe, AH.get_put_ne (Ne.symm e3), up_get, put_get]
    have hNle : Bs.le N := by rw [← hNe]; exact AH.le.put hwB (by omega) (AH.le.up (AH.le.put hwB (by omega) l2))
    clear hNe
    have hrows : ∀ (t sz : Nat) (va : AV) (es : List (List AV)), t ≠ 72 → Grows t sz Bs H va es → ∀ q k, va = .osl q sz 0 k → q < H.nx ∧ N.get q = H.get q := fun t sz va es ht hg q k e => by
      obtain ⟨_, g2', xs, g3⟩ := grows_at hg e
      refine ⟨g2', ?_⟩
      rw [hN q (fun c => by rw [c, hX] at g3; cases g3) (fun c => by rw [c, hgl] at g3; cases g3)]
      refine hold q g2' (fun c => by rw [c, hgm] at g3; cases g3) fun k' e' => ?_
      obtain ⟨_, ys, hr⟩ := hrow q k' e'
      rw [g3] at hr; injection hr with hr; injection hr with hr; exact ht hr
    refine rt_refl ⟨by rw [hid]; rfl, ⟨v', ⟨hNle, hbX, by omega, va, vf, ?_, ?_, ?_⟩, ?_, ?_, hNl, ?_, ?_, b1, b2, b3, b4⟩, by omega, fun q o c1 c2 c3 c4 ho => ?_⟩ (by omega)
    · rw [hNX]
      dsimp only
      rw [hla, List.length_append]; rfl
    · exact ga.same (by omega) fun q hq ⟨k, e⟩ => (hrows _ _ _ _ (by decide) ga q k e).2
    · exact gf.same (by omega) fun q hq ⟨k, e⟩ => (hrows _ _ _ _ (by decide) gf q k e).2
    · rw [hN _ (Ne.symm e1) e6]; exact hx2
    · rw [hN _ (Ne.symm e2) e8]; exact hbox _ _ _ hgn
    · rw [hN _ (Ne.symm e4) (Ne.symm e10), hm2]
      dsimp only
      rw [hla, List.length_append]; rfl
    · dsimp only
      rw [hla, List.map_append]
      exact g2.same (by omega) fun q hq ⟨k, e⟩ => by
        rw [hn'] at e; have e := (AV.osl.inj e).1
        have hq2 : H.nx ≤ q := by rw [← e]; exact Nat.le_add_right_of_le (Nat.le_add_right_of_le (Nat.le_add_right _ _))
        exact hN q (fun c => by rw [c] at hq2; exact Nat.not_le_of_lt l1 hq2) (fun c => by rw [c] at hq2; exact Nat.not_le_of_lt l4 hq2)
    · rw [hN q c1 c2, hold q (hw _ _ ho).1 c3 c4]; exact ho)
end Go.Proofs.Ytgkkilbeingleaa

/- Through: what is done at one pair. -/
namespace Go.Proofs.Ytgkkilbeingleaa
open Go.RowKit Go.Maps
/-- boxes are as they were -/
def Kt (n : ThN) (H H' : AH) : Prop := H.nx ≤ H'.nx ∧ ∀ j t cs, j ≠ n.X → j ≠ n.lb → H.get j = some (.box t cs) → H'.get j = some (.box t cs)
theorem Kt.trans {n : ThN} {H H1 H2 : AH} (h : Kt n H H1) (k : Kt n H1 H2) : Kt n H H2 := ⟨Nat.le_trans h.1 k.1, fun j t cs h1 h2 hg => k.2 j t cs h1 h2 (h.2 j t cs h1 h2 hg)⟩
def rowOf : AV → List Nat
  | .osl r _ _ _ => [r]
  | _ => []
def dsOf (n : ThN) (v : AV) : List Nat := n.X :: n.lb :: n.mp :: rowOf v
theorem delL_at {H : AH} {j : Nat} {o : AO} : ∀ {ds : List Nat}, (delL H ds).get j = some o → H.get j = some o ∧ j ∉ ds
  | [], h => ⟨h, by simp⟩
  | i :: r, h => by
    obtain ⟨h1, h2⟩ := AH.get_del h
    obtain ⟨h3, h4⟩ := delL_at (ds := r) h1
    exact ⟨h3, by simp [h2, h4]⟩
theorem delL_keep {H : AH} {j : Nat} : ∀ {ds : List Nat}, j ∉ ds → (delL H ds).get j = H.get j
  | [], _ => rfl
  | i :: r, h => by
    simp only [List.mem_cons, not_or] at h
    show ((delL H r).del i).get j = _
    rw [AH.get_del_ne h.1, delL_keep h.2]
section
variable {Bs H : AH} {B : Int} {n : ThN} {s : NS} {v : AV}
theorem ThAt.box (h : ThAt Bs H B n s v) {j t : Nat} {cs : List AV} (hg : H.get j = some (.box t cs)) (h1 : t ≠ 71) (h2 : t ≠ 74) : j ≠ n.X ∧ j ≠ n.lb ∧ j ∉ dsOf n v := by
  obtain ⟨va, vf, hX, _, _⟩ := h.mk_.at_
  have c1 : j ≠ n.X := fun e => by rw [e, hX] at hg; injection hg with hg; injection hg with hg; exact h1 hg.symm
  have c2 : j ≠ n.lb := fun e => by rw [e, h.gl] at hg; injection hg with hg; injection hg with hg; exact h2 hg.symm
  have c3 : j ≠ n.mp := fun e => by rw [e, h.gm] at hg; cases hg
  refine ⟨c1, c2, ?_⟩
  unfold dsOf
  simp only [List.mem_cons, not_or]
  refine ⟨c1, c2, c3, ?_⟩
  rcases h.gr with ⟨e, _⟩ | ⟨r, xs, e, _, _, hr, _⟩
  · rw [e]; simp [rowOf]
  · rw [e]
    simp only [rowOf, List.mem_singleton]
    intro c; rw [c, hr] at hg; cases hg
theorem ThAt.rd (h : ThAt Bs H B n s v) {j t : Nat} {cs : List AV} (hg : H.get j = some (.box t cs)) (h1 : t ≠ 71) (h2 : t ≠ 74) : (delL H (dsOf n v)).get j = some (.box t cs) := by
  rw [delL_keep (h.box hg h1 h2).2.2]; exact hg
theorem ThAt.keep (h : ThAt Bs H B n s v) {H' : AH} (hk : ∀ j o, j ≠ n.X → j ≠ n.lb → j ≠ n.mp → (∀ k, v ≠ .osl j 2 0 k) → H.get j = some o → H'.get j = some o) : (delL H (dsOf n v)).le H' := fun j o hj => by
  obtain ⟨h1, h2⟩ := delL_at hj
  unfold dsOf at h2
  simp only [List.mem_cons, not_or] at h2
  exact hk j o h2.1 h2.2.1 h2.2.2.1 (fun k e => h2.2.2.2 (by rw [e]; simp [rowOf])) h1
end
/-- a pair's number, and the arc that leads to it -/
theorem c_step {Bs H : AH} {B : Int} {n : ThN} {s : NS} {v : AV} (hwB : WF Bs) (h : ThAt Bs H B n s v) {i j fr inn out w : Int} {k : Nat} (hi : 0 ≤ i ∧ i ≤ 3000) (hj : 0 ≤ j ∧ j < B) (hB : B ≤ 3000) (hl : s.l.length < 1000000) (hl2 : s.arcs.length < 1000000) (K : AH → Prop)
    (hK : ∀ H', WF H' → (∃ v', ThAt Bs H' B n (s.add k ⟨fr, i * B + j, inn, out, w⟩) v') → Kt n H H' → K H') :
    CaK Try.prog (delL H (dsOf n v)) (.fn (.func 40) [] [.ptr n.nb 0, .ptr n.lb 0, .ptr n.xb 0]) [iv i, iv j] (fun r => Ca Try.prog (.fn (.func 41) [] []) [.ptr n.X 0, iv k, r, iv inn, iv out, iv w] (fun _ => Vw fun _ => K)) H := by
  refine cak_of (by kernel_rfl) (c_at hwB h hi hj hB hl) ?_
  rintro r H1 hw1 ⟨rfl, ⟨v1, h1⟩, hn1, hk1⟩
  refine ⟨h.keep hk1, ?_⟩
  refine ca_wf (by kernel_rfl) (c_arc hwB h1.mk_ (by omega) ⟨k, ((lA s.l (i * B + j)).idxOf (i * B + j) : Nat), inn, out, w⟩) ?_
  rintro _ H2 hw2 ⟨_, h2, hkb⟩
  obtain ⟨e1, e2, e3, e4, e5, e6, e7, e8, e9, e10⟩ := h1.ne
  have hbx : ∀ {j t cs}, j ≠ n.X → H1.get j = some (.box t cs) → H2.get j = some (.box t cs) := fun hj hg => hkb.box hj hg
  refine hK H2 hw2 ⟨v1, h2, hbx (Ne.symm e1) h1.gx, hbx (Ne.symm e2) h1.gn, hbx (Ne.symm e3) h1.gl, hkb.2 _ _ (Ne.symm e4) h1.gm (fun _ e => by cases e) (fun _ e => by cases e), ?_, h1.bx⟩ ⟨Nat.le_trans hn1 hkb.1, fun q t cs c1 c2 hg => ?_⟩
  · refine h1.gr.same hkb.1 fun q hq ⟨m, e⟩ => ?_
    obtain ⟨_, _, xs, hr⟩ := grows_at h1.gr e
    rw [hkb.2 q _ (fun c => by
      obtain ⟨va, vf, hX, _, _⟩ := h1.mk_.at_
      rw [c, hX] at hr; cases hr) hr (fun es e => by injection e with e; injection e with e; exact absurd e (by decide)) (fun es e => by injection e with e; injection e with e; exact absurd e (by decide)), hr]
  · refine hbx c1 (hk1 q _ c1 c2 (fun c => by rw [c, h.gm] at hg; cases hg) (fun m e => ?_) hg)
    obtain ⟨_, _, xs, hr⟩ := grows_at h.gr e
    rw [hg] at hr; cases hr
/-- what stands beside: both machines, and the result's box -/
structure ThC (Bs H : AH) (a b : Mac) (n : ThN) (A D R : Nat) (s : NS) : Prop where
  at_ : ∃ v, ThAt Bs H b.states n s v
  gA : H.get A = some (.box 25 a.cs)
  gD : H.get D = some (.box 25 b.cs)
  gR : H.get R = some (.box 25 [iv 0, .p (.slice none 0 0), .p (.slice none 0 0)])
section
variable {Bs H H' : AH} {a b : Mac} {n : ThN} {A D R : Nat} {s s' : NS}
theorem ThC.box (h : ThC Bs H a b n A D R s) (hk : Kt n H H') {j t : Nat} {cs : List AV} (hg : H.get j = some (.box t cs)) (h1 : t ≠ 71) (h2 : t ≠ 74) : H'.get j = some (.box t cs) := by
  obtain ⟨v, hv⟩ := h.at_
  obtain ⟨c1, c2, _⟩ := hv.box hg h1 h2
  exact hk.2 j t cs c1 c2 hg
theorem ThC.next (h : ThC Bs H a b n A D R s) (hk : Kt n H H') (h' : ∃ v, ThAt Bs H' b.states n s' v) : ThC Bs H' a b n A D R s' :=
  ⟨h', h.box hk h.gA (by decide) (by decide), h.box hk h.gD (by decide) (by decide), h.box hk h.gR (by decide) (by decide)⟩
theorem ThC.same (h : ThC Bs H a b n A D R s) (hwB : WF Bs) (hw : WF H) (hn : H.nx ≤ H'.nx) (hk : ∀ j, j < H.nx → H'.get j = H.get j) : ThC Bs H' a b n A D R s := by
  obtain ⟨v, hv⟩ := h.at_
  exact ⟨⟨v, hv.same hwB hw hn hk⟩, by rw [hk _ (hw _ _ h.gA).1]; exact h.gA, by rw [hk _ (hw _ _ h.gD).1]; exact h.gD, by rw [hk _ (hw _ _ h.gR).1]; exact h.gR⟩
end
theorem kt_same {n : ThN} {H H' : AH} (hw : WF H) (hn : H.nx ≤ H'.nx) (hk : ∀ j, j < H.nx → H'.get j = H.get j) : Kt n H H' := ⟨hn, fun j t cs _ _ hg => by rw [hk j (hw _ _ hg).1]; exact hg⟩
def thFn (n : ThN) : AV := .fn (.func 40) [] [.ptr n.nb 0, .ptr n.lb 0, .ptr n.xb 0]
theorem fold_l (k : Nat) : ∀ (L : List Arc) (s : NS), (L.foldl (NS.add k) s).l.length ≤ s.l.length + L.length
  | [], s => by simp
  | y :: L, s => by
    have h1 := fold_l k L (s.add k y)
    have h2 : (s.add k y).l.length ≤ s.l.length + 1 := by
      show (lA s.l y.to).length ≤ _
      unfold lA
      split <;> simp
    rw [List.foldl_cons, List.length_cons]
    omega
theorem fold_small {k : Nat} {L : List Arc} {s : NS} {x : Nat} (h : s.l.length ≤ x ∧ s.arcs.length ≤ x) {y : Nat} (hL : L.length ≤ y) : (L.foldl (NS.add k) s).l.length ≤ x + y ∧ (L.foldl (NS.add k) s).arcs.length ≤ x + y := by
  have h1 := fold_l k L s
  have h2 := fold_len k L s
  omega
set_option maxHeartbeats 1000000 in
theorem w_L2 {Bs H1 : AH} {a b : Mac} {n : ThN} {A D R : Nat} {s : NS} (hwB : WF Bs) (hb : b.Ok) (fb : b.Few) (hw1 : WF H1) (hc : ThC Bs H1 a b n A D R s) (hs : s.l.length ≤ 100000 ∧ s.arcs.length ≤ 100000) {f : Arc} {F : Nat} (hF : H1.get F = some (.box 53 f.cs))
    (hf : 0 ≤ f.to ∧ f.to ≤ 3000 ∧ 0 ≤ f.w ∧ f.w ≤ 1000000) {k u j : Nat} (hu : u < 100000) (k58 : List AV → AH → Prop)
    (hgo : ∀ H', WF H' → Kt n H1 H' → ThC Bs H' a b n A D R ((((outs b.arcs j).filter fun g => decide (g.inn = f.out)).map (arc2 b.states f)).foldl (NS.add k) s) → k58 [iv ((u + 1 : Nat) : Int)] H') :
    LoopA Try.prog 1 (S_machine_Through_L2 (.ptr n.xb 0) (thFn n) [iv k] k58 [iv u] (.ptr F 0) (.dsl 5 ((outs b.arcs j).map Arc.cs)) (iv (outs b.arcs j).length)) [iv 0] H1 := by
  have hml : maxLen = 9223372036854775807 := by decide
  obtain ⟨L, hL⟩ : ∃ L, outs b.arcs j = L := ⟨_, rfl⟩
  have hLl : L.length ≤ 120 := by rw [← hL]; have := outs_le b.arcs j; have := fb.2.1; omega
  have hLm : ∀ g ∈ L, g ∈ b.arcs := fun g hg => by rw [← hL] at hg; exact (List.mem_filter.1 hg).1
  rw [hL] at hgo ⊢
  refine loop_wf (fun v : Nat => [iv v]) (fun v H' => Kt n H1 H' ∧ v ≤ L.length ∧ ThC Bs H' a b n A D R ((((L.take v).filter fun g => decide (g.inn = f.out)).map (arc2 b.states f)).foldl (NS.add k) s)) (fun v => L.length - v) 0 (.refl (Nat.le_refl _)) ⟨⟨Nat.le_refl _, fun _ _ _ _ _ h => h⟩, Nat.zero_le _, by simpa using hc⟩ ?_
  rintro v H2 hn2 hw2 ⟨hkt, hv, hc2⟩ kk hkk
  unfold S_machine_Through_L2
  have hF2 := hc.box hkt hF (by decide) (by decide)
  by_cases hvl : v < L.length
  · obtain ⟨g, hg⟩ : ∃ g, L[v]? = some g := ⟨_, List.getElem?_eq_getElem hvl⟩
    have hgg : ∀ h, L[v]'h = g := fun h => (List.getElem?_eq_some_iff.1 hg).2
    have hvv := ivn (i := v) (by omega)
    have og := hb.2.2.2.2.1 g (hLm g (List.mem_of_getElem? hg))
    have hbs := hb.2.1
    have htk : L.take (v + 1) = L.take v ++ [g] := by rw [List.take_add_one, hg]; rfl
    have hs2 := fold_small (k := k) hs (L := ((L.take v).filter fun g => decide (g.inn = f.out)).map (arc2 b.states f)) (y := 120) (by
      rw [List.length_map]
      have := List.length_filter_le (fun g => decide (g.inn = f.out)) (L.take v)
      rw [List.length_take] at this
      omega)
    generalize hsv : (((L.take v).filter fun g => decide (g.inn = f.out)).map (arc2 b.states f)).foldl (NS.add k) s = sv at hc2 hs2
    have hFl := (hw2 _ _ hF2).1
    simp (disch := first | omega | simp) [iv, hvl]
    unfold S_machine_Through_C1
    unfold Arc.cs iv at hF2
    simp (disch := first | omega | simp) [iv, hvl, hg, hgg, hF2, Arc.cs, put_get_ne]
    generalize hMe : AH.put _ (H2.nx + 2) _ = M
    have hMn : M.nx = H2.nx + 4 := by rw [← hMe]; rfl
    have hMk : ∀ q, q < H2.nx → M.get q = H2.get q := fun q hq => by rw [← hMe, AH.get_put_ne (by omega), AH.get_put_ne (by omega), up_get]
    have hMg : M.get (H2.nx + 2) = some (.box 53 g.cs) := by rw [← hMe, put_get]; rfl
    clear hMe
    have hMF := (hMk F hFl).trans hF2
    by_cases q : g.inn = f.out
    · simp (disch := first | omega | simp) [q]
      have hc3 := hc2.same (H' := M.up 18) hwB hw2 (by simp only [up_nx]; omega) hMk
      obtain ⟨v1, hv1⟩ := hc3.at_
      refine ⟨dsOf n v1, ?_⟩
      have r1 := hv1.rd hv1.gx (by decide) (by decide)
      have r2 := hv1.rd hMF (by decide) (by decide)
      have r3 := hv1.rd hMg (by decide) (by decide)
      have hww : IntKind.i64.wrap (f.w + g.w) = f.w + g.w := by rw [IntKind.wrap_i64]; omega
      unfold Arc.cs iv at r3
      simp (disch := first | omega | simp) [r1, r2, r3, hww]
      clear hww hvv
      refine c_step (fr := f.fr * b.states + g.fr) hwB hv1 (i := f.to) (j := g.to) (by omega) (by omega) (by omega) (by omega) (by omega) _ ?_
      rintro H3 hw3 hT hk3
      have hkt3 : Kt n H1 H3 := hkt.trans ((kt_same (H' := M.up 18) hw2 (by simp only [up_nx]; omega) hMk).trans hk3)
      have hvv := ivn (i := v) (by omega)
      simp (disch := first | omega | simp) [hvv]
      clear hvv
      refine hkk (v + 1) _ _ _ (.refl (by have := hk3.1; simp only [up_nx] at this; omega)) ⟨hkt3, hvl, ?_⟩ (by omega)
      rw [htk, List.filter_append]
      simp only [List.filter_cons, q, decide_true, List.filter_nil, if_true]
      rw [List.map_append, List.foldl_append, hsv]
      exact hc3.next hk3 hT
    · simp (disch := first | omega | simp) [q, hvv]
      refine hkk (v + 1) _ _ _ (.refl (by omega)) ⟨hkt.trans (kt_same hw2 (by omega) hMk), hvl, ?_⟩ (by omega)
      rw [htk, List.filter_append]
      simp only [List.filter_cons, q, decide_false, List.filter_nil, List.append_nil]
      rw [if_neg (by decide), List.append_nil, hsv]
      exact hc2.same hwB hw2 (by omega) hMk
  · have hve : L.take v = L := List.take_of_length_le (by omega)
    rw [hve] at hc2
    have huv := ivn (i := u) (by omega)
    simp (disch := first | omega | simp) [iv, hvl, huv]
    exact hgo H2 hw2 hkt hc2
end Go.Proofs.Ytgkkilbeingleaa

/- Through: one pair, whole. -/
namespace Go.Proofs.Ytgkkilbeingleaa
open Go.RowKit Go.Maps
set_option maxHeartbeats 1000000 in
theorem w_L6 {Bs H1 : AH} {a b : Mac} {n : ThN} {A D R : Nat} {s : NS} (hwB : WF Bs) (hb : b.Ok) (fb : b.Few) (hw1 : WF H1) (hc : ThC Bs H1 a b n A D R s) (hs : s.l.length ≤ 100000 ∧ s.arcs.length ≤ 100000) {k i j : Nat} (hi : i ≤ 3000) (Q : AV → AH → Prop) (H : AH) (kM : List AV → AH → Prop)
    (hgo : ∀ H', WF H' → Kt n H1 H' → ThC Bs H' a b n A D R ((J2 b i j).foldl (NS.add k) s) → S_machine_Through_C5 Q H (.ptr R 0) (.ptr n.xb 0) kM [iv k] H') :
    LoopA Try.prog 1 (S_machine_Through_L6 Q H (.ptr R 0) (.ptr n.xb 0) (thFn n) kM [iv k] (iv i) (.dsl 5 ((outs b.arcs j).map Arc.cs)) (iv (outs b.arcs j).length)) [iv 0] H1 := by
  have hml : maxLen = 9223372036854775807 := by decide
  unfold J2 at hgo
  obtain ⟨L, hL⟩ : ∃ L, outs b.arcs j = L := ⟨_, rfl⟩
  have hLl : L.length ≤ 120 := by rw [← hL]; have := outs_le b.arcs j; have := fb.2.1; omega
  have hLm : ∀ g ∈ L, g ∈ b.arcs := fun g hg => by rw [← hL] at hg; exact (List.mem_filter.1 hg).1
  rw [hL] at hgo ⊢
  refine loop_wf (fun v : Nat => [iv v]) (fun v H' => Kt n H1 H' ∧ v ≤ L.length ∧ ThC Bs H' a b n A D R ((((L.take v).filter fun g => decide (g.inn = 0)).map (fun g => arc3 b.states g (i : Int))).foldl (NS.add k) s)) (fun v => L.length - v) 0 (.refl (Nat.le_refl _)) ⟨⟨Nat.le_refl _, fun _ _ _ _ _ h => h⟩, Nat.zero_le _, by simpa using hc⟩ ?_
  rintro v H2 hn2 hw2 ⟨hkt, hv, hc2⟩ kk hkk
  unfold S_machine_Through_L6
  by_cases hvl : v < L.length
  · obtain ⟨g, hg⟩ : ∃ g, L[v]? = some g := ⟨_, List.getElem?_eq_getElem hvl⟩
    have hgg : ∀ h, L[v]'h = g := fun h => (List.getElem?_eq_some_iff.1 hg).2
    have hvv := ivn (i := v) (by omega)
    have og := hb.2.2.2.2.1 g (hLm g (List.mem_of_getElem? hg))
    have hbs := hb.2.1
    have htk : L.take (v + 1) = L.take v ++ [g] := by rw [List.take_add_one, hg]; rfl
    have hs2 := fold_small (k := k) hs (L := ((L.take v).filter fun g => decide (g.inn = 0)).map (fun g => arc3 b.states g (i : Int))) (y := 120) (by
      rw [List.length_map]
      have := List.length_filter_le (fun g => decide (g.inn = 0)) (L.take v)
      rw [List.length_take] at this
      omega)
    generalize hsv : (((L.take v).filter fun g => decide (g.inn = 0)).map (fun g => arc3 b.states g (i : Int))).foldl (NS.add k) s = sv at hc2 hs2
    simp (disch := first | omega | simp) [iv, hvl]
    unfold S_machine_Through_C4
    simp (disch := first | omega | simp) [iv, hvl, hg, hgg, Arc.cs, put_get_ne]
    generalize hMe : AH.put _ (H2.nx + 2) _ = M
    have hMn : M.nx = H2.nx + 4 := by rw [← hMe]; rfl
    have hMk : ∀ q, q < H2.nx → M.get q = H2.get q := fun q hq => by rw [← hMe, AH.get_put_ne (by omega), AH.get_put_ne (by omega), up_get]
    have hMg : M.get (H2.nx + 2) = some (.box 53 g.cs) := by rw [← hMe, put_get]; rfl
    clear hMe
    by_cases q : g.inn = 0
    · simp (disch := first | omega | simp) [q]
      have hc3 := hc2.same (H' := M.up 12) hwB hw2 (by simp only [up_nx]; omega) hMk
      obtain ⟨v1, hv1⟩ := hc3.at_
      refine ⟨dsOf n v1, ?_⟩
      have r1 := hv1.rd hv1.gx (by decide) (by decide)
      have r3 := hv1.rd hMg (by decide) (by decide)
      unfold Arc.cs iv at r3
      simp (disch := first | omega | simp) [r1, r3]
      clear hvv
      refine c_step (fr := i * b.states + g.fr) (inn := 0) hwB hv1 (i := i) (j := g.to) (by omega) (by omega) (by omega) (by omega) (by omega) _ ?_
      rintro H3 hw3 hT hk3
      have hkt3 : Kt n H1 H3 := hkt.trans ((kt_same (H' := M.up 12) hw2 (by simp only [up_nx]; omega) hMk).trans hk3)
      have hvv := ivn (i := v) (by omega)
      simp (disch := first | omega | simp) [hvv]
      clear hvv
      refine hkk (v + 1) _ _ _ (.refl (by have := hk3.1; simp only [up_nx] at this; omega)) ⟨hkt3, hvl, ?_⟩ (by omega)
      rw [htk, List.filter_append]
      simp only [List.filter_cons, q, decide_true, List.filter_nil, if_true]
      rw [List.map_append, List.foldl_append, hsv]
      exact hc3.next hk3 hT
    · simp (disch := first | omega | simp) [q, hvv]
      refine hkk (v + 1) _ _ _ (.refl (by omega)) ⟨hkt.trans (kt_same hw2 (by omega) hMk), hvl, ?_⟩ (by omega)
      rw [htk, List.filter_append]
      simp only [List.filter_cons, q, decide_false, List.filter_nil, List.append_nil]
      rw [if_neg (by decide), List.append_nil, hsv]
      exact hc2.same hwB hw2 (by omega) hMk
  · have hve : L.take v = L := List.take_of_length_le (by omega)
    rw [hve] at hc2
    simp (disch := first | omega | simp) [iv, hvl]
    exact hgo H2 hw2 hkt hc2
theorem w_C5 {Bs H1 : AH} {a b : Mac} {n : ThN} {A D R : Nat} {s : NS} (hc : ThC Bs H1 a b n A D R s) (hs : s.l.length ≤ 3000 ∧ s.arcs.length ≤ 20000) {k : Nat} (hk : k < 100000) (Q : AV → AH → Prop) (H : AH) (kM : List AV → AH → Prop) (hgo : kM [iv ((k + 1 : Nat) : Int)] H1) :
    S_machine_Through_C5 Q H (.ptr R 0) (.ptr n.xb 0) kM [iv k] H1 := by
  obtain ⟨v, hv⟩ := hc.at_
  obtain ⟨va, vf, hX, ga, gf⟩ := hv.mk_.at_
  have hgx := hv.gx
  have hkv := ivn (i := k) (by omega)
  unfold iv bv at hX
  have h1 : ¬ (3000 : Int) < (s.l.length : Int) := by omega
  have h2 : ¬ (20000 : Int) < (s.arcs.length : Int) := by omega
  unfold S_machine_Through_C5
  simp (disch := first | omega | simp) [iv, hgx, hX, ga.len, h1, h2, hkv]
  exact hgo
set_option maxHeartbeats 1000000 in
theorem w_L7 {Bs H1 : AH} {a b : Mac} {n : ThN} {A D R : Nat} {s : NS} (hwB : WF Bs) (ha : a.Ok) (fa : a.Few) (hb : b.Ok) (fb : b.Few) (hw1 : WF H1) (hc : ThC Bs H1 a b n A D R s) (hs : s.l.length ≤ 20000 ∧ s.arcs.length ≤ 20000) {k i j : Nat} (hi : i ≤ 3000) (hj : (j : Int) < b.states) (Q : AV → AH → Prop) (H : AH) (kM : List AV → AH → Prop)
    (hgo : ∀ H', WF H' → Kt n H1 H' → ThC Bs H' a b n A D R (((outs a.arcs i).flatMap (J1 b j) ++ J2 b i j).foldl (NS.add k) s) → S_machine_Through_C5 Q H (.ptr R 0) (.ptr n.xb 0) kM [iv k] H') :
    LoopA Try.prog 1 (S_machine_Through_L7 Q H (.ptr R 0) (.ptr n.xb 0) (thFn n) (.dsl 1 (fromE b)) kM [iv k] (iv i) (iv j) (.dsl 5 ((outs a.arcs i).map Arc.cs)) (iv (outs a.arcs i).length)) [iv 0] H1 := by
  have hml : maxLen = 9223372036854775807 := by decide
  have hfe : (fromE b)[j]? = some [.dsl 5 ((outs b.arcs j).map Arc.cs)] := oV_get (by omega)
  have hfl : (fromE b).length = b.states.toNat := oV_len _ _
  have hjn : j < b.states.toNat := by omega
  have hjm : (j : Int) < max b.states 0 := by omega
  have hfg : ∀ h, (fromE b)[j]'h = [.dsl 5 ((outs b.arcs j).map Arc.cs)] := fun h => (List.getElem?_eq_some_iff.1 hfe).2
  obtain ⟨L, hL⟩ : ∃ L, outs a.arcs i = L := ⟨_, rfl⟩
  have hLl : L.length ≤ 120 := by rw [← hL]; have := outs_le a.arcs i; have := fa.2.1; omega
  have hLm : ∀ g ∈ L, g ∈ a.arcs := fun g hg => by rw [← hL] at hg; exact (List.mem_filter.1 hg).1
  rw [hL] at hgo ⊢
  have hJl : ∀ f, (J1 b j f).length ≤ 120 := fun f => by
    unfold J1
    split
    · simp
    · rw [List.length_map]
      have h1 := List.length_filter_le (fun g => decide (g.inn = f.out)) (outs b.arcs j)
      have := outs_le b.arcs j
      have := fb.2.1
      omega
  refine loop_wf (fun v : Nat => [iv v]) (fun v H' => Kt n H1 H' ∧ v ≤ L.length ∧ ThC Bs H' a b n A D R (((L.take v).flatMap (J1 b j)).foldl (NS.add k) s)) (fun v => L.length - v) 0 (.refl (Nat.le_refl _)) ⟨⟨Nat.le_refl _, fun _ _ _ _ _ h => h⟩, Nat.zero_le _, by simpa using hc⟩ ?_
  rintro v H2 hn2 hw2 ⟨hkt, hv, hc2⟩ kk hkk
  have hs2 := fold_small (k := k) hs (L := (L.take v).flatMap (J1 b j)) (y := 14400) (by
    have h1 := flat_len2 (J1 b j) 120 (L.take v) fun f _ => hJl f
    rw [List.length_take] at h1
    have : min v L.length * 120 ≤ 120 * 120 := Nat.mul_le_mul_right _ (by omega)
    omega)
  unfold S_machine_Through_L7
  by_cases hvl : v < L.length
  · obtain ⟨f, hf⟩ : ∃ f, L[v]? = some f := ⟨_, List.getElem?_eq_getElem hvl⟩
    have hff : ∀ h, L[v]'h = f := fun h => (List.getElem?_eq_some_iff.1 hf).2
    have hvv := ivn (i := v) (by omega)
    have of := ha.2.2.2.2.1 f (hLm f (List.mem_of_getElem? hf))
    have has := ha.2.1
    have hbs := hb.2.1
    have htk : L.take (v + 1) = L.take v ++ [f] := by rw [List.take_add_one, hf]; rfl
    have hnext : ∀ sv, ((L.take v).flatMap (J1 b j)).foldl (NS.add k) s = sv → ((L.take (v + 1)).flatMap (J1 b j)).foldl (NS.add k) s = (J1 b j f).foldl (NS.add k) sv := fun sv h => by
      rw [htk, List.flatMap_append, List.foldl_append, h]
      simp
    generalize hsv : ((L.take v).flatMap (J1 b j)).foldl (NS.add k) s = sv at hc2 hs2
    have hnext := hnext sv hsv
    simp (disch := first | omega | simp) [iv, hvl]
    unfold S_machine_Through_C3
    simp (disch := first | omega | simp) [iv, hvl, hf, hff, Arc.cs, put_get_ne]
    generalize hMe : AH.put _ (H2.nx + 2) _ = M
    have hMn : M.nx = H2.nx + 4 := by rw [← hMe]; rfl
    have hMk : ∀ q, q < H2.nx → M.get q = H2.get q := fun q hq => by rw [← hMe, AH.get_put_ne (by omega), AH.get_put_ne (by omega), up_get]
    have hMf : M.get (H2.nx + 2) = some (.box 53 f.cs) := by rw [← hMe, put_get]; rfl
    have hMw : WF M := by rw [← hMe]; exact ((hw2.up 4).box (by first | omega | (simp only [up_nx, put_nx, kill_nx]; done) | (simp only [up_nx, put_nx, kill_nx]; omega)) (by repeat (first | exact Cl.p _ | exact Cl.dsl _ _ | exact Cl.any | refine Cl.tup ?_ | refine Cl.agg ?_ | exact Clo.nil | refine Clo.cons ?_ ?_))).box (by first | omega | (simp only [up_nx, put_nx, kill_nx]; done) | (simp only [up_nx, put_nx, kill_nx]; omega)) (by repeat (first | exact Cl.p _ | exact Cl.dsl _ _ | exact Cl.any | refine Cl.tup ?_ | refine Cl.agg ?_ | exact Clo.nil | refine Clo.cons ?_ ?_))
    clear hMe
    by_cases q : f.out = 0
    · simp (disch := first | omega | simp) [q]
      have hc3 := hc2.same (H' := M.up 12) hwB hw2 (by simp only [up_nx]; omega) hMk
      obtain ⟨v1, hv1⟩ := hc3.at_
      refine ⟨dsOf n v1, ?_⟩
      have r1 := hv1.rd hv1.gx (by decide) (by decide)
      have r3 := hv1.rd hMf (by decide) (by decide)
      unfold Arc.cs iv at r3
      simp (disch := first | omega | simp) [r1, r3]
      clear hvv
      refine c_step (fr := f.fr * b.states + j) (out := 0) hwB hv1 (i := f.to) (j := j) (by omega) (by omega) (by omega) (by omega) (by omega) _ ?_
      rintro H3 hw3 hT hk3
      have hkt3 : Kt n H1 H3 := hkt.trans ((kt_same (H' := M.up 12) hw2 (by simp only [up_nx]; omega) hMk).trans hk3)
      have hvv := ivn (i := v) (by omega)
      simp (disch := first | omega | simp) [hvv]
      clear hvv
      refine hkk (v + 1) _ _ _ (.refl (by have := hk3.1; simp only [up_nx] at this; omega)) ⟨hkt3, hvl, ?_⟩ (by omega)
      rw [hnext]
      unfold J1
      rw [if_pos q]
      exact hc3.next hk3 hT
    · simp (disch := first | omega | simp) [q, hfe, hfl, hjn, hjm, hfg]
      refine w_L2 (u := v) (k := k) (f := f) hwB hb fb hMw (hc2.same hwB hw2 (by omega) hMk) (by omega) hMf (by omega) (by omega) kk ?_
      intro H3 hw3 hk3 hc3
      refine hkk (v + 1) _ _ _ (.refl (by have := hk3.1; omega)) ⟨hkt.trans ((kt_same hw2 (by omega) hMk).trans hk3), hvl, ?_⟩ (by omega)
      rw [hnext]
      unfold J1
      rw [if_neg q]
      exact hc3
  · have hve : L.take v = L := List.take_of_length_le (by omega)
    rw [hve] at hc2 hs2
    simp (disch := first | omega | simp) [iv, hvl, hfe, hfl, hjn, hjm, hfg]
    refine w_L6 hwB hb fb hw2 hc2 (by omega) hi Q H kM ?_
    intro H3 hw3 hk3 hc3
    refine hgo H3 hw3 (hkt.trans hk3) ?_
    rw [List.foldl_append]
    exact hc3
end Go.Proofs.Ytgkkilbeingleaa

/- Through: the ends. -/
namespace Go.Proofs.Ytgkkilbeingleaa
open Go.RowKit Go.Maps
def cF (l : List Fin_) : Bool := l.any fun f => decide (1000000 < f.w)
def endG (B : Int) (l : List Int) (f g : Fin_) : Option Fin_ := if f.st * B + g.st ∈ l then some ⟨(l.idxOf (f.st * B + g.st) : Nat), f.w + g.w⟩ else none
theorem finsN_prod (a b : Mac) (l : List Int) : finsN (prodM a b) l = a.fins.flatMap fun f => b.fins.filterMap (endG b.states l f) := by
  unfold finsN
  have hpr : (prodM a b).fins = a.fins.flatMap fun f => b.fins.map fun g => ⟨f.st * b.states + g.st, f.w + g.w⟩ := rfl
  rw [hpr]
  induction a.fins with
  | nil => rfl
  | cons f r ih =>
    rw [List.flatMap_cons, List.flatMap_cons, List.filterMap_append, ih, List.filterMap_map]
    rfl
theorem costly_eq (P : Mac) : costlyN P = ((endN P).c || cF (finsN P (endN P).l)) := by
  unfold costlyN cF
  congr 1
  rw [Bool.eq_iff_iff]
  simp
structure FnAt (Bs H : AH) (b : Mac) (n : ThN) (D R : Nat) (s : NS) (l : List Fin_) : Prop where
  mk_ : MkAt Bs H n.X ⟨s.l.length, s.arcs, l⟩ (s.c || cF l)
  gx : H.get n.xb = some (.box 69 [.ptr n.X 0])
  gn : H.get n.nb = some (.box 73 [.mp n.mp])
  gm : H.get n.mp = some (.map 72 s.l.length (numF b.states s.l))
  gD : H.get D = some (.box 25 b.cs)
  gR : H.get R = some (.box 25 [iv 0, .p (.slice none 0 0), .p (.slice none 0 0)])
section
variable {Bs H H' : AH} {b : Mac} {n : ThN} {D R : Nat} {s : NS} {l l' : List Fin_}
theorem FnAt.ne (h : FnAt Bs H b n D R s l) {j t : Nat} {cs : List AV} (hg : H.get j = some (.box t cs)) (h1 : t ≠ 71) : j ≠ n.X := fun e => by
  obtain ⟨va, vf, hX, _, _⟩ := h.mk_.at_
  rw [e, hX] at hg; injection hg with hg; injection hg with hg; exact h1 hg.symm
theorem FnAt.nem (h : FnAt Bs H b n D R s l) : n.mp ≠ n.X := fun e => by
  obtain ⟨va, vf, hX, _, _⟩ := h.mk_.at_
  have := h.gm
  rw [e, hX] at this; cases this
theorem FnAt.same (h : FnAt Bs H b n D R s l) (hwB : WF Bs) (hw : WF H) (hn : H.nx ≤ H'.nx) (hk : ∀ j, j < H.nx → H'.get j = H.get j) : FnAt Bs H' b n D R s l :=
  ⟨h.mk_.same hwB hn hk, by rw [hk _ (hw _ _ h.gx).1]; exact h.gx, by rw [hk _ (hw _ _ h.gn).1]; exact h.gn, by rw [hk _ (hw _ _ h.gm).1]; exact h.gm, by rw [hk _ (hw _ _ h.gD).1]; exact h.gD, by rw [hk _ (hw _ _ h.gR).1]; exact h.gR⟩
/-- all boxes but the maker are as they were -/
def Kx (n : ThN) (H H' : AH) : Prop := H.nx ≤ H'.nx ∧ ∀ j t cs, j ≠ n.X → H.get j = some (.box t cs) → H'.get j = some (.box t cs)
theorem Kx.trans {H1 : AH} (h : Kx n H H1) (k : Kx n H1 H') : Kx n H H' := ⟨Nat.le_trans h.1 k.1, fun j t cs h1 hg => k.2 j t cs h1 (h.2 j t cs h1 hg)⟩
theorem kx_same (hw : WF H) (hn : H.nx ≤ H'.nx) (hk : ∀ j, j < H.nx → H'.get j = H.get j) : Kx n H H' := ⟨hn, fun j t cs _ hg => by rw [hk j (hw _ _ hg).1]; exact hg⟩
end
set_option maxHeartbeats 1000000 in
/-- one end of both -/
theorem w_C8 {Bs H1 : AH} {b : Mac} {n : ThN} {D R : Nat} {s : NS} {l : List Fin_} (hwB : WF Bs) (hw1 : WF H1) (hc : FnAt Bs H1 b n D R s l) (hl : l.length < 1000000) {f g : Fin_} {F G : Nat} (hF : H1.get F = some (.box 56 f.cs)) (hG : H1.get G = some (.box 56 g.cs))
    (hf : 0 ≤ f.w ∧ f.w ≤ 1000000) (hg : 0 ≤ g.w ∧ g.w ≤ 1000000) {v : Nat} (hv : v < 100000) {x : Int} (kk : List AV → AH → Prop)
    (hgo : ∀ H', WF H' → Kx n H1 H' → FnAt Bs H' b n D R s (l ++ [⟨x, f.w + g.w⟩]) → kk [iv ((v + 1 : Nat) : Int)] H') : S_machine_Through_C8 (.ptr n.xb 0) (.ptr F 0) kk [iv v] (.ptr G 0) (iv x) H1 := by
  have hml : maxLen = 9223372036854775807 := by decide
  have hww : IntKind.i64.wrap (f.w + g.w) = f.w + g.w := by rw [IntKind.wrap_i64]; omega
  have hgx := hc.gx
  have nF := hc.ne hF (by decide)
  have nG := hc.ne hG (by decide)
  have hF' := hF
  have hG' := hG
  unfold Fin_.cs iv at hF hG
  unfold S_machine_Through_C8
  simp (disch := first | omega | simp) [iv, hgx, hF, hG, hww]
  refine ca_wf (by kernel_rfl) (c_final hwB hc.mk_ (by dsimp only; omega) ⟨x, f.w + g.w⟩) ?_
  rintro _ H2 hw2 ⟨_, h2, hkb⟩
  have hbx : ∀ {j t cs}, j ≠ n.X → H1.get j = some (.box t cs) → H2.get j = some (.box t cs) := fun hj hg => hkb.box hj hg
  have gx2 := hbx (hc.ne hc.gx (by decide)) hc.gx
  have gn2 := hbx (hc.ne hc.gn (by decide)) hc.gn
  have gm2 := hkb.2 _ _ hc.nem hc.gm (fun _ e => by cases e) (fun _ e => by cases e)
  have gD2 := hbx (hc.ne hc.gD (by decide)) hc.gD
  have gR2 := hbx (hc.ne hc.gR (by decide)) hc.gR
  have gF2 := hbx nF hF
  have gG2 := hbx nG hG
  obtain ⟨va, vf, hX, ga, gf⟩ := h2.at_
  have hX' := hX
  have hvv := ivn (i := v) (by omega)
  have hXl := h2.hx
  have hcl : ∀ c', (s.c || cF (l ++ [⟨x, f.w + g.w⟩])) = c' → ∀ H3 : AH, H3.nx = H2.nx + 16 → (∀ j, j ≠ n.X → H3.get j = H2.get j) → H3.get n.X = some (.box 71 [iv s.l.length, va, vf, bv c']) → WF H3 → kk [iv ((v + 1 : Nat) : Int)] H3 := fun c' e H3 hn3 hk3 hX3 hw3 => by
    have hrows : ∀ (t sz : Nat) (va : AV) (es : List (List AV)), Grows t sz Bs H2 va es → ∀ q k, va = .osl q sz 0 k → H3.get q = H2.get q := fun t sz va es hg q k e => by
      obtain ⟨_, _, xs, g3⟩ := grows_at hg e
      exact hk3 q fun c => by rw [c, hX'] at g3; cases g3
    refine hgo H3 hw3 ⟨by have := hkb.1; omega, fun j t cs hj hg => by rw [hk3 j hj]; exact hbx hj hg⟩ ⟨⟨fun j o ho => ?_, h2.bx, by omega, va, vf, by rw [hX3, e], ?_, ?_⟩, ?_, ?_, ?_, ?_, ?_⟩
    · rw [hk3 j (fun c => by have := (hwB _ _ ho).1; have := h2.bx; omega)]; exact h2.le _ _ ho
    · exact ga.same (by omega) fun q _ ⟨k, e⟩ => hrows _ _ _ _ ga q k e
    · exact gf.same (by omega) fun q _ ⟨k, e⟩ => hrows _ _ _ _ gf q k e
    · rw [hk3 _ (hc.ne hc.gx (by decide))]; exact gx2
    · rw [hk3 _ (hc.ne hc.gn (by decide))]; exact gn2
    · rw [hk3 _ hc.nem]; exact gm2
    · rw [hk3 _ (hc.ne hc.gD (by decide))]; exact gD2
    · rw [hk3 _ (hc.ne hc.gR (by decide))]; exact gR2
  unfold iv bv at hX
  have hcf : cF (l ++ [⟨x, f.w + g.w⟩]) = (cF l || decide (1000000 < f.w + g.w)) := by unfold cF; simp
  rw [hcf] at hcl
  have hcla := hw2 _ _ hX'
  have hclo : ∀ (z : Int) (c' : Bool), WF ((H2.up 16).put n.X (.box 71 [.p (.int .i64 z), va, vf, .p (.bool c')])) := fun z c' => by
    have hva : Cl H2.nx va := hcla.2 va (by simp)
    have hvf : Cl H2.nx vf := hcla.2 vf (by simp)
    exact (hw2.up 16).box (by simp only [up_nx]; omega) (.cons (Cl.p _) (.cons (hva.mono (Nat.le_add_right _ _)) (.cons (hvf.mono (Nat.le_add_right _ _)) (.cons (Cl.p _) .nil))))
  have hend : ∀ c', (s.c || (cF l || decide (1000000 < f.w + g.w))) = c' → kk [.p (.int .i64 ((v + 1 : Nat) : Int))] ((H2.up 16).put n.X (.box 71 [.p (.int .i64 s.l.length), va, vf, .p (.bool c')])) := fun c' e =>
    hcl c' e _ rfl (fun j hj => by rw [AH.get_put_ne hj, up_get]) (by rw [put_get]; rfl) (hclo _ _)
  have hst : (Mac.fin ⟨(s.l.length : Int), s.arcs, l⟩ ⟨x, f.w + g.w⟩).states = (s.l.length : Int) := rfl
  cases hcc : (s.c || cF l) with
  | true =>
    rw [hcc] at hX
    simp (disch := first | omega | simp) [iv, gx2, hX, put_get_ne, hvv, hst]
    exact hend true (by rw [← Bool.or_assoc, hcc]; rfl)
  | false =>
    rw [hcc] at hX
    by_cases q : 1000000 < f.w + g.w
    · simp (disch := first | omega | simp) [iv, gx2, hX, gF2, gG2, hww, q, put_get_ne, hvv, hst]
      exact hend true (by rw [← Bool.or_assoc, hcc]; simp [q])
    · simp (disch := first | omega | simp) [iv, gx2, hX, gF2, gG2, hww, q, put_get_ne, hvv, hst]
      exact hend false (by rw [← Bool.or_assoc, hcc]; simp [q])
/-- all that is told of the numbered ends -/
theorem endG_len (B : Int) (l : List Int) (L : List Fin_) (f : Fin_) : (L.filterMap (endG B l f)).length ≤ L.length := List.length_filterMap_le _ _
set_option maxHeartbeats 1000000 in
/-- one end of the first machine with those of the other one -/
theorem w_L9 {Bs H1 : AH} {b : Mac} {n : ThN} {D R : Nat} {s : NS} {l : List Fin_} (hwB : WF Bs) (hb : b.Ok) (fb : b.Few) (hw1 : WF H1) (hc : FnAt Bs H1 b n D R s l) (hl : l.length < 900000) {f : Fin_} {F : Nat} (hF : H1.get F = some (.box 56 f.cs))
    (hf : 0 ≤ f.w ∧ f.w ≤ 1000000 ∧ 0 ≤ f.st ∧ f.st ≤ 3000) {u : Nat} (hu : u < 100000) (k : List AV → AH → Prop)
    (hgo : ∀ H', WF H' → Kx n H1 H' → FnAt Bs H' b n D R s (l ++ b.fins.filterMap (endG b.states s.l f)) → k [iv ((u + 1 : Nat) : Int)] H') :
    LoopA Try.prog 1 (S_machine_Through_L9 (.ptr n.xb 0) (.ptr n.nb 0) k [iv u] (.ptr F 0) (.dsl 2 (b.fins.map Fin_.cs)) (iv b.fins.length)) [iv 0] H1 := by
  have hml : maxLen = 9223372036854775807 := by decide
  have hfl := fb.2.2
  have hbs := hb.2.1
  refine loop_wf (fun v : Nat => [iv v]) (fun v H' => Kx n H1 H' ∧ v ≤ b.fins.length ∧ FnAt Bs H' b n D R s (l ++ (b.fins.take v).filterMap (endG b.states s.l f))) (fun v => b.fins.length - v) 0 (.refl (Nat.le_refl _)) ⟨⟨Nat.le_refl _, fun _ _ _ _ h => h⟩, Nat.zero_le _, by simpa using hc⟩ ?_
  rintro v H2 hn2 hw2 ⟨hkt, hv, hc2⟩ kk hkk
  unfold S_machine_Through_L9
  have hF2 := hkt.2 F _ _ (hc.ne hF (by decide)) hF
  by_cases hvl : v < b.fins.length
  · obtain ⟨g, hg⟩ : ∃ g, b.fins[v]? = some g := ⟨_, List.getElem?_eq_getElem hvl⟩
    have hgg : ∀ h, b.fins[v]'h = g := fun h => (List.getElem?_eq_some_iff.1 hg).2
    have hvv := ivn (i := v) (by omega)
    have og := hb.2.2.2.2.2.1 g (List.mem_of_getElem? hg)
    have htk : b.fins.take (v + 1) = b.fins.take v ++ [g] := by rw [List.take_add_one, hg]; rfl
    have hkey := keyI2 (a := f.st) (b := g.st) (by unfold I64; omega) (by unfold I64; omega)
    have hnum := numF_at (l := s.l) (i := f.st) og.1 og.2.1
    unfold kv at hkey hnum
    have hll : (l ++ (b.fins.take v).filterMap (endG b.states s.l f)).length < 1000000 := by
      have := endG_len b.states s.l (b.fins.take v) f
      rw [List.length_take] at this
      rw [List.length_append]
      omega
    have hFl := (hw2 _ _ hF2).1
    have hgn := hc2.gn
    have hgm := hc2.gm
    have hnl := (hw2 _ _ hgn).1
    have hml2 := (hw2 _ _ hgm).1
    have hF3 := hF2
    unfold Fin_.cs iv at hF3
    have hG3 : ∃ z, z = H2.nx + 2 := ⟨_, rfl⟩
    obtain ⟨G, hGe⟩ := hG3
    have hMw : WF (((H2.up 4).put (H2.nx + 2) (.box 56 [.p (.int .i64 0), .p (.int .i64 0)])).put (H2.nx + 2) (.box 56 [.p (.int .i64 g.st), .p (.int .i64 g.w)])) := ((hw2.up 4).box (by first | omega | (simp only [up_nx, put_nx, kill_nx]; done) | (simp only [up_nx, put_nx, kill_nx]; omega)) (by repeat (first | exact Cl.p _ | exact Cl.dsl _ _ | exact Cl.any | refine Cl.tup ?_ | refine Cl.agg ?_ | exact Clo.nil | refine Clo.cons ?_ ?_))).box (by first | omega | (simp only [up_nx, put_nx, kill_nx]; done) | (simp only [up_nx, put_nx, kill_nx]; omega)) (by repeat (first | exact Cl.p _ | exact Cl.dsl _ _ | exact Cl.any | refine Cl.tup ?_ | refine Cl.agg ?_ | exact Clo.nil | refine Clo.cons ?_ ?_))
    by_cases hm : f.st * b.states + g.st ∈ s.l
    · rw [if_pos hm] at hnum
      simp (disch := first | omega | simp) [iv, hvl, hg, hgg, Fin_.cs, put_get_ne, hF3, hgn, hgm, lawI2, hkey, hnum]
      generalize hMe : AH.put _ (H2.nx + 2) _ = M at hMw ⊢
      have hMn : M.nx = H2.nx + 4 := by rw [← hMe]; rfl
      have hMk : ∀ q, q < H2.nx → M.get q = H2.get q := fun q hq => by rw [← hMe, AH.get_put_ne (by omega), AH.get_put_ne (by omega), up_get]
      have hMg : M.get (H2.nx + 2) = some (.box 56 g.cs) := by rw [← hMe, put_get]; rfl
      clear hMe
      refine w_C8 hwB hMw (hc2.same hwB hw2 (by omega) hMk) hll ((hMk F hFl).trans hF2) hMg (by omega) (by omega) (by omega) kk ?_
      intro H3 hw3 hk3 hc3
      refine hkk (v + 1) _ _ _ (.refl (by have := hk3.1; omega)) ⟨hkt.trans ((kx_same hw2 (by omega) hMk).trans hk3), hvl, ?_⟩ (by omega)
      have hE : endG b.states s.l f g = some ⟨(s.l.idxOf (f.st * b.states + g.st) : Nat), f.w + g.w⟩ := by unfold endG; rw [if_pos hm]
      rw [htk, List.filterMap_append, ← List.append_assoc]
      simp only [List.filterMap_cons, List.filterMap_nil, hE]
      exact hc3
    · rw [if_neg hm] at hnum
      simp (disch := first | omega | simp) [iv, hvl, hg, hgg, Fin_.cs, put_get_ne, hF3, hgn, hgm, lawI2, hkey, hnum, hvv]
      generalize hMe : AH.put _ (H2.nx + 2) _ = M at hMw ⊢
      have hMn : M.nx = H2.nx + 4 := by rw [← hMe]; rfl
      have hMk : ∀ q, q < H2.nx → M.get q = H2.get q := fun q hq => by rw [← hMe, AH.get_put_ne (by omega), AH.get_put_ne (by omega), up_get]
      clear hMe
      refine hkk (v + 1) _ _ _ (.refl (by omega)) ⟨hkt.trans (kx_same hw2 (by omega) hMk), hvl, ?_⟩ (by omega)
      have hE : endG b.states s.l f g = none := by unfold endG; rw [if_neg hm]
      rw [htk, List.filterMap_append, ← List.append_assoc]
      simp only [List.filterMap_cons, List.filterMap_nil, hE, List.append_nil]
      exact hc2.same hwB hw2 (by omega) hMk
  · have hve : b.fins.take v = b.fins := List.take_of_length_le (by omega)
    rw [hve] at hc2
    have huv := ivn (i := u) (by omega)
    simp (disch := first | omega | simp) [iv, hvl, huv]
    exact hgo H2 hw2 hkt hc2
end Go.Proofs.Ytgkkilbeingleaa
