/- What follows, plainly: lines and whether they are right; what is argued for follows; what has no argument, when all has come of all, has a world against it. No program in sight. -/
import Derived.Test.YtcmnjoepadjioaaPv1
namespace Go.Proofs.Ytcmnjoepadjioaa

structure Lin where
  rule : Int
  c : Clm
  src : List Int
/-- what a line's numbers name -/
def pickC (l : List Clm) (n : Nat) : List Int → Option (List Clm)
  | [] => some []
  | k :: r => if 0 ≤ k ∧ k < n then (match l[k.toNat]?, pickC l n r with
    | some c, some cs => some (c :: cs)
    | _, _ => none) else none
def ruleB (rule : Int) (c : Clm) (of : List Clm) : Bool :=
  if rule = 1 then of == [c]
  else if rule = 2 then of.isEmpty && !c.so && c.a == c.b
  else if rule = 3 then (match of with
    | [p, q] => !p.so && !q.so && !c.so && p.b == q.a && c.a == p.a && c.b == q.b
    | _ => false)
  else if rule = 4 then (match of with
    | [p] => !p.so && !c.so && c.a == -p.b && c.b == -p.a
    | _ => false)
  else if rule = 5 then (match of with
    | [p] => !p.so && p.b == -p.a && !c.so && c.a == p.a
    | _ => false)
  else if rule = 6 then (match of with
    | [p] => !p.so && p.a == -p.b && !c.so && c.b == p.b
    | _ => false)
  else if rule = 7 then (match of with
    | [p] => p.so && c.so && c.a == p.b && c.b == p.a
    | _ => false)
  else if rule = 8 then (match of with
    | [p] => p.so && c.so && c.a == p.a && c.b == p.a
    | _ => false)
  else if rule = 9 then (match of with
    | [p, q] => p.so && !q.so && c.so && p.b == q.a && c.a == p.a && c.b == q.b
    | _ => false)
  else if rule = 10 then (match of with
    | [p, q] => !p.so && q.so && q.a == p.a && q.b == -p.b
    | _ => false)
  else false
/-- is a line, of which so many stand ahead, right? -/
def rightB (prem : List Clm) (cs : List Clm) (n : Nat) (x : Lin) : Bool :=
  match (if x.rule = 1 then pickC prem prem.length x.src else pickC cs n x.src) with
  | some of => ruleB x.rule x.c of
  | none => false
/-- premises hold, so what comes of them does -/
def allHold (W : List Nat) (prem : List Clm) : Prop := ∀ p ∈ prem, holdsC W p = true
theorem clm_eta (c : Clm) : c = ⟨c.so, c.a, c.b⟩ := rfl
theorem holds_all {W : List Nat} {c : Clm} (h : c.so = false) : holdsC W c = true ↔ ∀ w ∈ W, isL w c.a = true → isL w c.b = true := by
  obtain ⟨s, a, b⟩ := c; simp only at h; subst h; exact holdsC_all
theorem holds_some {W : List Nat} {c : Clm} (h : c.so = true) : holdsC W c = true ↔ ∃ w ∈ W, isL w c.a = true ∧ isL w c.b = true := by
  obtain ⟨s, a, b⟩ := c; simp only at h; subst h; exact holdsC_some
theorem rule_holds {W : List Nat} {rule : Int} {c : Clm} {of : List Clm} (h : ruleB rule c of = true) (hof : ∀ p ∈ of, holdsC W p = true) (hok : ∀ p ∈ of, p.ok) : holdsC W c = true := by
  unfold ruleB at h
  by_cases r1 : rule = 1
  · rw [if_pos r1] at h
    have h := eq_of_beq h
    subst h; exact hof c (by simp)
  rw [if_neg r1] at h
  by_cases r2 : rule = 2
  · rw [if_pos r2] at h
    simp only [Bool.and_eq_true, Bool.not_eq_true', beq_iff_eq] at h
    rw [holds_all h.1.2]
    intro w _ ha; rw [← h.2]; exact ha
  rw [if_neg r2] at h
  by_cases r3 : rule = 3
  · rw [if_pos r3] at h
    match of, h, hof with
    | [p, q], h, hof =>
      simp only [Bool.and_eq_true, Bool.not_eq_true', beq_iff_eq] at h
      obtain ⟨⟨⟨⟨⟨h1, h2⟩, h3⟩, h4⟩, h5⟩, h6⟩ := h
      rw [holds_all h3]
      have hp := (holds_all h1).1 (hof p (by simp))
      have hq := (holds_all h2).1 (hof q (by simp))
      intro w hw ha
      rw [h6]; refine hq w hw ?_; rw [← h4]; refine hp w hw ?_; rw [← h5]; exact ha
  rw [if_neg r3] at h
  by_cases r4 : rule = 4
  · rw [if_pos r4] at h
    match of, h, hof, hok with
    | [p], h, hof, hok =>
      simp only [Bool.and_eq_true, Bool.not_eq_true', beq_iff_eq] at h
      obtain ⟨⟨⟨h1, h2⟩, h3⟩, h4⟩ := h
      rw [holds_all h2]
      have hp := (holds_all h1).1 (hof p (by simp))
      have ho := hok p (by simp)
      intro w hw ha
      rw [h3, isL_neg ho.2] at ha
      rw [h4, isL_neg ho.1]
      cases hc : isL w p.a with
      | false => rfl
      | true => rw [hp w hw hc] at ha; cases ha
  rw [if_neg r4] at h
  by_cases r5 : rule = 5
  · rw [if_pos r5] at h
    match of, h, hof, hok with
    | [p], h, hof, hok =>
      simp only [Bool.and_eq_true, Bool.not_eq_true', beq_iff_eq] at h
      obtain ⟨⟨⟨h1, h2⟩, h3⟩, h4⟩ := h
      rw [holds_all h3]
      have hp := (holds_all h1).1 (hof p (by simp))
      have ho := hok p (by simp)
      intro w hw ha
      rw [h4] at ha
      have := hp w hw ha
      rw [h2, isL_neg ho.1, ha] at this
      cases this
  rw [if_neg r5] at h
  by_cases r6 : rule = 6
  · rw [if_pos r6] at h
    match of, h, hof, hok with
    | [p], h, hof, hok =>
      simp only [Bool.and_eq_true, Bool.not_eq_true', beq_iff_eq] at h
      obtain ⟨⟨⟨h1, h2⟩, h3⟩, h4⟩ := h
      rw [holds_all h3]
      have hp := (holds_all h1).1 (hof p (by simp))
      have ho := hok p (by simp)
      intro w hw _
      rw [h4]
      cases hc : isL w p.b with
      | true => rfl
      | false =>
        have := hp w hw (by rw [h2, isL_neg ho.2, hc]; rfl)
        rw [hc] at this; cases this
  rw [if_neg r6] at h
  by_cases r7 : rule = 7
  · rw [if_pos r7] at h
    match of, h, hof with
    | [p], h, hof =>
      simp only [Bool.and_eq_true, beq_iff_eq] at h
      obtain ⟨⟨⟨h1, h2⟩, h3⟩, h4⟩ := h
      obtain ⟨w, hw, q1, q2⟩ := (holds_some h1).1 (hof p (by simp))
      rw [holds_some h2, h3, h4]
      exact ⟨w, hw, q2, q1⟩
  rw [if_neg r7] at h
  by_cases r8 : rule = 8
  · rw [if_pos r8] at h
    match of, h, hof with
    | [p], h, hof =>
      simp only [Bool.and_eq_true, beq_iff_eq] at h
      obtain ⟨⟨⟨h1, h2⟩, h3⟩, h4⟩ := h
      obtain ⟨w, hw, q1, q2⟩ := (holds_some h1).1 (hof p (by simp))
      rw [holds_some h2, h3, h4]
      exact ⟨w, hw, q1, q1⟩
  rw [if_neg r8] at h
  by_cases r9 : rule = 9
  · rw [if_pos r9] at h
    match of, h, hof with
    | [p, q], h, hof =>
      simp only [Bool.and_eq_true, Bool.not_eq_true', beq_iff_eq] at h
      obtain ⟨⟨⟨⟨⟨h1, h2⟩, h3⟩, h4⟩, h5⟩, h6⟩ := h
      obtain ⟨w, hw, q1, q2⟩ := (holds_some h1).1 (hof p (by simp))
      have hq := (holds_all h2).1 (hof q (by simp))
      rw [holds_some h3, h5, h6]
      exact ⟨w, hw, q1, hq w hw (by rw [← h4]; exact q2)⟩
  rw [if_neg r9] at h
  by_cases r10 : rule = 10
  · rw [if_pos r10] at h
    match of, h, hof, hok with
    | [p, q], h, hof, hok =>
      simp only [Bool.and_eq_true, Bool.not_eq_true', beq_iff_eq] at h
      obtain ⟨⟨⟨h1, h2⟩, h3⟩, h4⟩ := h
      obtain ⟨w, hw, q1, q2⟩ := (holds_some h2).1 (hof q (by simp))
      have hp := (holds_all h1).1 (hof p (by simp))
      have ho := hok p (by simp)
      have := hp w hw (by rw [← h3]; exact q1)
      rw [h4, isL_neg ho.2, this] at q2
      cases q2
  rw [if_neg r10] at h
  cases h
theorem pick_mem {l : List Clm} {n : Nat} : ∀ {src : List Int} {of : List Clm}, pickC l n src = some of → ∀ p ∈ of, ∃ k, k < n ∧ l[k]? = some p
  | [], of, h, p, hp => by simp only [pickC, Option.some.injEq] at h; subst h; simp at hp
  | k :: r, of, h, p, hp => by
    rw [pickC] at h
    split at h
    · rename_i hk
      cases h1 : l[k.toNat]? with
      | none => rw [h1] at h; cases h
      | some c =>
        cases h2 : pickC l n r with
        | none => rw [h1, h2] at h; cases h
        | some cs =>
          rw [h1, h2] at h
          simp only [Option.some.injEq] at h
          subst h
          rcases List.mem_cons.1 hp with rfl | hp
          · exact ⟨k.toNat, by omega, h1⟩
          · exact pick_mem h2 p hp
    · cases h
/-- all lines of a list are right -/
def allRight (prem : List Clm) (l : List Lin) : Prop := ∀ (n : Nat) (x : Lin), l[n]? = some x → rightB prem (l.map (·.c)) n x = true
theorem lines_hold {prem : List Clm} {l : List Lin} (hr : allRight prem l) (hp : ∀ p ∈ prem, p.ok) (hl : ∀ x ∈ l, x.c.ok) {W : List Nat} (hW : allHold W prem) : ∀ (n : Nat) (x : Lin), l[n]? = some x → holdsC W x.c = true := by
  intro n
  induction n using Nat.strongRecOn with
  | _ n ih =>
    intro x hx
    have h := hr n x hx
    unfold rightB at h
    split at h
    · rename_i of hof
      split at hof
      · refine rule_holds h (fun p hp' => ?_) (fun p hp' => ?_)
        · obtain ⟨k, _, hk⟩ := pick_mem hof p hp'
          exact hW p (List.mem_of_getElem? hk)
        · obtain ⟨k, _, hk⟩ := pick_mem hof p hp'
          exact hp p (List.mem_of_getElem? hk)
      · refine rule_holds h (fun p hp' => ?_) (fun p hp' => ?_)
        · obtain ⟨k, hk1, hk⟩ := pick_mem hof p hp'
          rw [List.getElem?_map] at hk
          cases hy : l[k]? with
          | none => rw [hy] at hk; cases hk
          | some y =>
            rw [hy] at hk; simp at hk; subst hk
            exact ih k hk1 y hy
        · obtain ⟨k, hk1, hk⟩ := pick_mem hof p hp'
          rw [List.getElem?_map] at hk
          cases hy : l[k]? with
          | none => rw [hy] at hk; cases hk
          | some y =>
            rw [hy] at hk; simp at hk; subst hk
            exact hl y (List.mem_of_getElem? hy)
    · cases h

/-- who may be there -/
def mayB (prem : List Clm) (w : Nat) : Bool := prem.all fun p => p.so || holdsC [w] p
def mayL (prem : List Clm) : List Nat := (List.range 64).filter (mayB prem)
def agW (prem : List Clm) (c : Clm) : List Nat := if c.so then (mayL prem).filter (fun w => !holds1 w c) else mayL prem
def agB (prem : List Clm) (c : Clm) : Bool := (c.so || (mayL prem).any (fun w => holds1 w c)) && prem.all (fun p => holdsC (agW prem c) p)
theorem mem_may {prem : List Clm} {w : Nat} : w ∈ mayL prem ↔ w < 64 ∧ ∀ p ∈ prem, p.so = false → isL w p.a = true → isL w p.b = true := by
  unfold mayL mayB
  rw [List.mem_filter, List.mem_range, List.all_eq_true]
  constructor
  · rintro ⟨h1, h2⟩
    refine ⟨h1, fun p hp hs ha => ?_⟩
    have := h2 p hp
    rw [hs, Bool.false_or] at this
    exact (holds_all hs).1 this w (by simp) ha
  · rintro ⟨h1, h2⟩
    refine ⟨h1, fun p hp => ?_⟩
    cases hs : p.so with
    | true => rfl
    | false =>
      rw [Bool.false_or, holds_all hs]
      intro w' hw' ha
      rw [List.mem_singleton] at hw'; subst hw'
      exact h2 p hp hs ha
theorem agW_may {prem : List Clm} {c : Clm} {w : Nat} (h : w ∈ agW prem c) : w ∈ mayL prem := by
  unfold agW at h
  split at h
  · exact (List.mem_filter.1 h).1
  · exact h
theorem agB_iff {prem : List Clm} {c : Clm} : agB prem c = true ↔ (c.so = false → ∃ w ∈ mayL prem, holds1 w c = true) ∧ ∀ p ∈ prem, p.so = true → ∃ w ∈ agW prem c, isL w p.a = true ∧ isL w p.b = true := by
  unfold agB
  rw [Bool.and_eq_true, Bool.or_eq_true, List.any_eq_true, List.all_eq_true]
  constructor
  · rintro ⟨h1, h2⟩
    refine ⟨fun hs => ?_, fun p hp hs => (holds_some hs).1 (h2 p hp)⟩
    rcases h1 with h1 | h1
    · rw [hs] at h1; cases h1
    · exact h1
  · rintro ⟨h1, h2⟩
    refine ⟨?_, fun p hp => ?_⟩
    · cases hs : c.so with
      | true => exact Or.inl rfl
      | false => exact Or.inr (h1 hs)
    · cases hs : p.so with
      | true => rw [holds_some hs]; exact h2 p hp hs
      | false =>
        rw [holds_all hs]
        intro w hw ha
        exact (mem_may.1 (agW_may hw)).2 p hp hs ha
/-- the world against it is one -/
theorem agW_against {prem : List Clm} {c : Clm} (h : agB prem c = true) : allHold (agW prem c) prem ∧ holdsC (agW prem c) c = false := by
  have h0 := h
  unfold agB at h
  rw [Bool.and_eq_true, List.all_eq_true] at h
  refine ⟨fun p hp => h.2 p hp, ?_⟩
  cases hc : holdsC (agW prem c) c with
  | false => rfl
  | true =>
    obtain ⟨h1, _⟩ := agB_iff.1 h0
    cases hs : c.so with
    | true =>
      obtain ⟨w, hw, q1, q2⟩ := (holds_some hs).1 hc
      unfold agW at hw
      rw [if_pos hs] at hw
      have := (List.mem_filter.1 hw).2
      unfold holds1 at this
      rw [q1, q2, hs] at this
      cases this
    | false =>
      obtain ⟨w, hw, hh⟩ := h1 hs
      have := (holds_all hs).1 hc w (by unfold agW; rw [if_neg (by rw [hs]; decide)]; exact hw)
      unfold holds1 at hh
      rw [Bool.and_eq_true, hs] at hh
      rw [this hh.1] at hh
      cases hh.2

/-- all has come of all -/
structure Closed (prem L : List Clm) : Prop where
  ok : ∀ c ∈ L, c.ok
  prem : ∀ p ∈ prem, p ∈ L
  self : ∀ x, litOk x → ⟨false, x, x⟩ ∈ L
  chain : ∀ a b c, ⟨false, a, b⟩ ∈ L → ⟨false, b, c⟩ ∈ L → ⟨false, a, c⟩ ∈ L
  turn : ∀ a b, ⟨false, a, b⟩ ∈ L → ⟨false, -b, -a⟩ ∈ L
  void : ∀ a y, ⟨false, a, -a⟩ ∈ L → litOk y → ⟨false, a, y⟩ ∈ L
  swap : ∀ a b, ⟨true, a, b⟩ ∈ L → ⟨true, b, a⟩ ∈ L
  there : ∀ a b, ⟨true, a, b⟩ ∈ L → ⟨true, a, a⟩ ∈ L
  lead : ∀ a b c, ⟨true, a, b⟩ ∈ L → ⟨false, b, c⟩ ∈ L → ⟨true, a, c⟩ ∈ L
def clashed (L : List Clm) : Prop := ∃ a b, ⟨false, a, b⟩ ∈ L ∧ ⟨true, a, -b⟩ ∈ L
theorem Closed.order {prem L : List Clm} (h : Closed prem L) : Order (fun a b => (⟨false, a, b⟩ : Clm) ∈ L) :=
  ⟨h.self, h.chain, h.turn, h.void, fun x y hl => h.ok _ hl⟩
theorem may_of {prem L : List Clm} (h : Closed prem L) {w : Nat} (hw : w < 64) (hc : ∀ x y, (⟨false, x, y⟩ : Clm) ∈ L → isL w x = true → isL w y = true) : w ∈ mayL prem :=
  mem_may.2 ⟨hw, fun p hp hs ha => by
    have := h.prem p hp
    obtain ⟨s, a, b⟩ := p
    simp only at hs ha ⊢
    subst hs
    exact hc a b this ha⟩
/-- what has no argument has a world against it -/
theorem complete {prem L : List Clm} (h : Closed prem L) {c : Clm} (hok : c.ok) (hc : c ∉ L) (hcl : ¬ clashed L) : agB prem c = true := by
  have O := h.order
  have some1 : ∀ p ∈ prem, p.so = true → ¬ (⟨false, p.a, -p.b⟩ : Clm) ∈ L := fun p hp hs hl => hcl ⟨p.a, -p.b, hl, by
    have := h.prem p hp
    obtain ⟨s, a, b⟩ := p
    simp only at hs
    subst hs
    rw [Int.neg_neg]; exact this⟩
  rw [agB_iff]
  obtain ⟨s, a, b⟩ := c
  cases s with
  | false =>
    refine ⟨fun _ => ?_, fun p hp hs => ?_⟩
    · obtain ⟨w, hw, q1, q2, q3⟩ := two_who O (a := a) (b := -b) hok.1 (lit_neg hok.2) (by rw [Int.neg_neg]; exact hc)
      refine ⟨w, may_of h hw q3, ?_⟩
      unfold holds1
      rw [isL_neg hok.2] at q2
      simp only [Bool.not_eq_true'] at q2
      simp [q1, q2]
    · have ho := h.ok p (h.prem p hp)
      obtain ⟨w, hw, q1, q2, q3⟩ := two_who O (a := p.a) (b := p.b) ho.1 ho.2 (some1 p hp hs)
      exact ⟨w, by unfold agW; rw [if_neg (by simp)]; exact may_of h hw q3, q1, q2⟩
  | true =>
    refine ⟨(fun e => by cases e), fun p hp hs => ?_⟩
    have ho := h.ok p (h.prem p hp)
    have hpl := h.prem p hp
    have hp1 := some1 p hp hs
    obtain ⟨s, pa, pb⟩ := p
    simp only at hs hp1 ho
    subst hs
    have key : ∀ x, litOk x → ¬ (⟨false, pa, x⟩ : Clm) ∈ L → ¬ (⟨false, pb, x⟩ : Clm) ∈ L → ∃ w, w < 64 ∧ isL w pa = true ∧ isL w pb = true ∧ isL w x = false ∧ ∀ x y, (⟨false, x, y⟩ : Clm) ∈ L → isL w x = true → isL w y = true := by
      intro x hx h1 h2
      obtain ⟨w, hw, q1, q2, q3, q4⟩ := three_who O (a := pa) (b := pb) (c := -x) ho.1 ho.2 (lit_neg hx) hp1 (by rw [Int.neg_neg]; exact h1) (by rw [Int.neg_neg]; exact h2) (fun hv => by
        -- -x is nothing: all is x
        have := h.turn _ _ (h.void (-x) (-pa) hv (lit_neg ho.1))
        rw [Int.neg_neg, Int.neg_neg] at this
        exact h1 this)
      rw [isL_neg hx] at q3
      simp only [Bool.not_eq_true'] at q3
      exact ⟨w, hw, q1, q2, q3, q4⟩
    have fin : ∀ w, w < 64 → isL w pa = true → isL w pb = true → (isL w a = false ∨ isL w b = false) → (∀ x y, (⟨false, x, y⟩ : Clm) ∈ L → isL w x = true → isL w y = true) → ∃ w ∈ agW prem ⟨true, a, b⟩, isL w pa = true ∧ isL w pb = true := by
      intro w hw q1 q2 q3 q4
      refine ⟨w, ?_, q1, q2⟩
      unfold agW
      rw [if_pos rfl]
      refine List.mem_filter.2 ⟨may_of h hw q4, ?_⟩
      unfold holds1
      rcases q3 with q3 | q3 <;> simp [q3]
    by_cases hA : (⟨false, pa, a⟩ : Clm) ∈ L ∨ (⟨false, pb, a⟩ : Clm) ∈ L
    · by_cases hB : (⟨false, pa, b⟩ : Clm) ∈ L ∨ (⟨false, pb, b⟩ : Clm) ∈ L
      · exfalso
        apply hc
        -- some a is b
        have sw := h.swap _ _ hpl
        have ta := h.there _ _ hpl
        have tb := h.there _ _ sw
        rcases hA with hA | hA <;> rcases hB with hB | hB
        · exact h.lead _ _ _ (h.swap _ _ (h.lead _ _ _ ta hA)) hB
        · exact h.lead _ _ _ (h.swap _ _ (h.lead _ _ _ sw hA)) hB
        · exact h.lead _ _ _ (h.swap _ _ (h.lead _ _ _ hpl hA)) hB
        · exact h.lead _ _ _ (h.swap _ _ (h.lead _ _ _ tb hA)) hB
      · have h1 : ¬ (⟨false, pa, b⟩ : Clm) ∈ L := fun hx => hB (Or.inl hx)
        have h2 : ¬ (⟨false, pb, b⟩ : Clm) ∈ L := fun hx => hB (Or.inr hx)
        obtain ⟨w, hw, q1, q2, q3, q4⟩ := key b hok.2 h1 h2
        exact fin w hw q1 q2 (Or.inr q3) q4
    · have h1 : ¬ (⟨false, pa, a⟩ : Clm) ∈ L := fun hx => hA (Or.inl hx)
      have h2 : ¬ (⟨false, pb, a⟩ : Clm) ∈ L := fun hx => hA (Or.inr hx)
      obtain ⟨w, hw, q1, q2, q3, q4⟩ := key a hok.1 h1 h2
      exact fin w hw q1 q2 (Or.inl q3) q4
/-- what is argued for has none -/
theorem sound_no {prem : List Clm} {l : List Lin} (hr : allRight prem l) (hp : ∀ p ∈ prem, p.ok) (hl : ∀ x ∈ l, x.c.ok) {c : Clm} (hc : c ∈ l.map (·.c)) : agB prem c = false := by
  cases h : agB prem c with
  | false => rfl
  | true =>
    obtain ⟨h1, h2⟩ := agW_against h
    obtain ⟨x, hx, rfl⟩ := List.mem_map.1 hc
    obtain ⟨n, hn⟩ := List.getElem?_of_mem hx
    rw [lines_hold hr hp hl h1 n x hn] at h2
    cases h2
end Go.Proofs.Ytcmnjoepadjioaa
