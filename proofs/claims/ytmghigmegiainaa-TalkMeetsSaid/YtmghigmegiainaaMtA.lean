/- Two talkers who hear each other: in plain words: what holds all the while, that three turns of both bring them to the same, and what was seen last. -/
import Derived.Test.YtmghigmegiainaaTkL
namespace Go.Proofs.Ytmghigmegiainaa
open Go.RowKit

/- which of two entries stands above the other -/
theorem bytesLess_lt : ∀ (x y : List UInt8), Op.bytesLess x y = decide (x < y)
  | [], [] => by simp [Op.bytesLess]
  | _ :: _, [] => by simp [Op.bytesLess]
  | [], _ :: _ => by simp [Op.bytesLess]
  | a :: x, b :: y => by
    rw [Op.bytesLess, bytesLess_lt x y]
    simp only [List.cons_lt_cons_iff]
    by_cases h1 : a < b <;> by_cases h2 : a = b <;> by_cases h3 : x < y <;> simp [h1, h2, h3]
def Above (a b : Told) : Prop := b.ver < a.ver ∨ (b.ver = a.ver ∧ (b.who < a.who ∨ (b.who = a.who ∧ b.val.toList < a.val.toList)))
theorem above_iff (a b : Told) : 0 < a.later b ↔ Above a b := by
  unfold Told.later or3 cmpI cmpS Above
  by_cases h1 : a.ver < b.ver
  · simp [h1]; omega
  · by_cases h2 : b.ver < a.ver
    · simp [h1, h2]
    · have h3 : a.ver = b.ver := by omega
      by_cases h4 : a.who < b.who
      · simp [h3, h4]; omega
      · by_cases h5 : b.who < a.who
        · simp [h3, h4, h5]
        · have h6 : a.who = b.who := by omega
          simp [h3, h6]
          unfold strLt strGt
          rw [bytesLess_lt]
          by_cases h7 : a.val.toList < b.val.toList
          · simp [h7]; exact List.le_of_lt h7
          · by_cases h8 : a.val.toList = b.val.toList
            · simp [h8, List.lt_irrefl]
            · simp [h7, h8]
              exact Std.lt_of_le_of_ne (by simpa using h7) (fun e => h8 e.symm)
theorem Above.trans {a b c : Told} (h : Above a b) (h' : Above b c) : Above a c := by
  unfold Above at *
  rcases h with h | ⟨h1, h | ⟨h2, h⟩⟩ <;> rcases h' with h' | ⟨k1, h' | ⟨k2, h'⟩⟩
  · left; omega
  · left; omega
  · left; omega
  · left; omega
  · right; exact ⟨by omega, .inl (by omega)⟩
  · right; exact ⟨by omega, .inl (by omega)⟩
  · left; omega
  · right; exact ⟨by omega, .inl (by omega)⟩
  · right; exact ⟨by omega, .inr ⟨by omega, List.lt_trans h' h⟩⟩
theorem Above.irrefl (a : Told) : ¬ Above a a := by
  unfold Above
  rintro (h | ⟨_, h | ⟨_, h⟩⟩)
  · omega
  · omega
  · exact List.lt_irrefl _ h
theorem above_tri (a b : Told) : Above a b ∨ Above b a ∨ a.later b = 0 := by
  by_cases h : 0 < a.later b
  · exact .inl ((above_iff a b).1 h)
  · by_cases h0 : a.later b = 0
    · exact .inr (.inr h0)
    · refine .inr (.inl ((above_iff b a).1 ?_))
      unfold Told.later or3 cmpI cmpS at *
      by_cases h1 : a.ver < b.ver
      · simp [h1]; split <;> omega
      · by_cases h2 : b.ver < a.ver
        · simp [h1, h2] at h
        · have h3 : a.ver = b.ver := by omega
          by_cases h4 : a.who < b.who
          · simp [h3, h4]; split <;> omega
          · by_cases h5 : b.who < a.who
            · simp [h3, h4, h5] at h
            · have h6 : a.who = b.who := by omega
              simp [h3, h6] at h h0 ⊢
              unfold strLt strGt at *
              rw [bytesLess_lt] at *
              by_cases h7 : a.val.toList < b.val.toList
              · have h8 : ¬ b.val.toList < a.val.toList := fun h => List.lt_irrefl _ (List.lt_trans h h7)
                have h9 : b.val.toList ≠ a.val.toList := fun e => by rw [e] at h7; exact List.lt_irrefl _ h7
                simp [h8, h9]
              · by_cases h8 : a.val.toList = b.val.toList
                · simp [h8] at h0
                · simp [h7, h8] at h
theorem Above.not {a b : Told} (h : Above a b) : ¬ Above b a := fun h' => Above.irrefl _ (h.trans h')
theorem Above.ne {a b : Told} (h : Above a b) : a.later b ≠ 0 := fun h0 => by
  have := (above_iff a b).2 h; omega
/-- a is at most as late as b -/
def Upto (a b : Told) : Prop := ¬ Above a b
theorem Upto.refl (a : Told) : Upto a a := Above.irrefl a
theorem later_opn (a b : Told) (x y : Bool) : ({ a with opn := x } : Told).later { b with opn := y } = a.later b := rfl
theorem Upto.above {a b c : Told} (h : Upto a b) (h' : Above c b) : Upto a c := fun h2 => h (h2.trans h')
theorem Upto.grew {a b c : Told} (h : Upto a b) (h' : c = b ∨ Above c b) : Upto a c := by
  rcases h' with rfl | h'
  · exact h
  · exact h.above h'

/- what one slot hears -/
def hearAt (e : Ent) (x : Told) : Ent :=
  if 0 < ({ x with opn := false } : Told).later e.t then ⟨{ x with opn := false }, true, x.opn⟩
  else if ({ x with opn := false } : Told).later e.t = 0 then { e with known := true, owed := e.owed || x.opn } else e
theorem hear1_get (es : List Ent) {x : Told} (hs : 0 ≤ x.slot) (i : Nat) : (hear1 es x)[i]? = (es[i]?).map fun e => if x.slot = (i : Int) then hearAt e x else e := by
  unfold hear1
  have hx : ((x.slot.toNat : Nat) : Int) = x.slot := Int.toNat_of_nonneg hs
  by_cases hi : x.slot = (i : Int)
  · have ht : x.slot.toNat = i := by omega
    rw [ht]
    cases he : es[i]? with
    | none => simp [he]
    | some e =>
      have hl : i < es.length := (List.getElem?_eq_some_iff.1 he).1
      simp only [hi, if_true, Option.map_some]
      unfold hearAt
      simp only [hi]
      split
      · simp [List.getElem?_set_self hl]
      · split
        · simp [List.getElem?_set_self hl]
        · rw [he]
  · have ht : x.slot.toNat ≠ i := by omega
    simp only [hi, if_false]
    have e0 : (es[i]?).map (fun e => e) = es[i]? := by cases es[i]? <;> rfl
    rw [e0]
    split
    · rfl
    · split
      · exact List.getElem?_set_ne ht
      · split
        · exact List.getElem?_set_ne ht
        · rfl
def hears (e : Ent) (l : List Told) : Ent := l.foldl hearAt e
theorem foldl_get (i : Nat) : ∀ (l : List Told) (es : List Ent), (∀ x ∈ l, 0 ≤ x.slot) → (l.foldl hear1 es)[i]? = (es[i]?).map fun e => hears e (l.filter fun x => x.slot == (i : Int))
  | [], es, _ => by simp [hears]
  | a :: r, es, h => by
    rw [List.foldl_cons, foldl_get i r _ (fun x hx => h x (by simp [hx])), hear1_get es (h a (by simp))]
    rw [Option.map_map]
    congr 1
    funext e
    simp only [Function.comp]
    by_cases hi : a.slot = (i : Int)
    · simp [hi, hears]
    · simp [hi, hears]
theorem tells_slot {e : Ent} {x : Told} (h : x ∈ e.tells) : x.slot = e.t.slot := by
  unfold Ent.tells at h
  split at h
  · simp at h; rw [h]
  · cases h
theorem takeL_at : ∀ (es : List Ent) (k j : Nat), (∀ (i : Nat) (e : Ent), es[i]? = some e → e.t.slot = ((k + i : Nat) : Int)) → (es.flatMap Ent.tells).filter (fun x => x.slot == (j : Int)) = if k ≤ j then ((es[j - k]?).map Ent.tells).getD [] else []
  | [], k, j, _ => by simp
  | e :: r, k, j, h => by
    rw [List.flatMap_cons, List.filter_append, takeL_at r (k + 1) j (fun i x hx => by rw [h (i + 1) x (by simpa using hx)]; congr 1; omega)]
    have h0 := h 0 e (by simp)
    rw [Nat.add_zero] at h0
    by_cases hj : j = k
    · subst hj
      rw [if_neg (by omega), if_pos (Nat.le_refl _), List.append_nil, Nat.sub_self]
      simp
      intro x hx
      rw [tells_slot hx, h0]
    · have : e.tells.filter (fun x => x.slot == (j : Int)) = [] := by
        rw [List.filter_eq_nil_iff]
        intro x hx
        rw [tells_slot hx, h0]
        simp; omega
      rw [this, List.nil_append]
      by_cases hk : k + 1 ≤ j
      · rw [if_pos hk, if_pos (by omega), show j - k = (j - (k + 1)) + 1 from by omega, List.getElem?_cons_succ]
      · rw [if_neg hk, if_neg (by omega)]
theorem takeL_get {es : List Ent} (h : EsOk es) (j : Nat) : (takeL es).filter (fun x => x.slot == (j : Int)) = ((es[j]?).map Ent.tells).getD [] := by
  have := takeL_at es 0 j (fun i e he => by rw [Nat.zero_add]; exact (h i e he).1)
  unfold takeL
  simpa using this
theorem takeL_pos {es : List Ent} (h : EsOk es) : ∀ x ∈ takeL es, 0 ≤ x.slot := by
  intro x hx
  unfold takeL at hx
  obtain ⟨e, he, hx⟩ := List.mem_flatMap.1 hx
  obtain ⟨i, hi⟩ := List.mem_iff_getElem?.1 he
  rw [tells_slot hx, (h i e hi).1]
  omega
theorem hearS_get {P Q : List Ent} (h : EsOk P) (h0 : hearE Q (takeL P) = 0) (i : Nat) : (hearS Q (takeL P))[i]? = (Q[i]?).map fun b => hears b (((P[i]?).map Ent.tells).getD []) := by
  unfold hearS
  rw [if_pos h0, foldl_get i _ _ (takeL_pos h), takeL_get h]
theorem takeS_get (P : List Ent) (i : Nat) : (takeS P)[i]? = (P[i]?).map Ent.done := by simp [takeS]

/- one turn, in one slot -/
def turn (ab : Ent × Ent) : Ent × Ent := (hears ab.1.done (hears ab.2 ab.1.tells).tells, (hears ab.2 ab.1.tells).done)
/-- both have the same and nothing to tell -/
def Still (ab : Ent × Ent) : Prop := ab.1.t = ab.2.t ∧ ab.1.tells = [] ∧ ab.2.tells = []
theorem tells_nil {e : Ent} (h : e.tells = []) : e.opens = false ∧ e.owed = false := by
  unfold Ent.tells at h
  split at h
  · cases h
  · rename_i h0; simpa using h0
theorem done_nil {e : Ent} (h : e.tells = []) : e.done = e := by
  obtain ⟨_, h1⟩ := tells_nil h
  unfold Ent.done
  cases e; simp at h1; simp [h1]
theorem Still.turn_ {ab : Ent × Ent} (h : Still ab) : turn ab = ab := by
  obtain ⟨h1, h2, h3⟩ := h
  unfold turn
  rw [h2, show hears ab.2 [] = ab.2 from rfl, h3, done_nil h2, done_nil h3, show hears ab.1 [] = ab.1 from rfl]
def EntZ (i : Nat) (a : Ent) : Prop := a.t.slot = (i : Int) ∧ 0 ≤ a.t.ver ∧ a.t.opn = false ∧ (a.t.ver = 0 → a = ent0 (i : Int))
def Both (i : Nat) (ab : Ent × Ent) : Prop := EntZ i ab.1 ∧ EntZ i ab.2 ∧ (ab.1.known = true → Upto ab.1.t ab.2.t) ∧ (ab.2.known = true → Upto ab.2.t ab.1.t)
theorem told_opn_off {t : Told} (h : t.opn = false) (x : Bool) : ({ ({ t with opn := x } : Told) with opn := false } : Told) = t := by
  cases t; simp at h; simp [h]
theorem hearAt_up {e : Ent} {t : Told} {x : Bool} (ho : t.opn = false) (h : Above t e.t) : hearAt e { t with opn := x } = ⟨t, true, x⟩ := by
  unfold hearAt
  rw [told_opn_off ho, if_pos ((above_iff _ _).2 h)]
theorem hearAt_eq {e : Ent} {t : Told} {x : Bool} (ho : t.opn = false) (h : t.later e.t = 0) : hearAt e { t with opn := x } = ⟨e.t, true, e.owed || x⟩ := by
  unfold hearAt
  rw [told_opn_off ho, h]
  simp
theorem hearAt_down {e : Ent} {t : Told} {x : Bool} (ho : t.opn = false) (h : Above e.t t) : hearAt e { t with opn := x } = e := by
  unfold hearAt
  have h1 : ¬ 0 < t.later e.t := fun h2 => h.not ((above_iff _ _).1 h2)
  have h2 : ¬ t.later e.t = 0 := fun h2 => by
    rcases (later_zero _ _).1 h2 with ⟨h3, h4, h5⟩
    have := Above.irrefl t
    unfold Above at h this
    rw [h3, h4, h5] at h
    rw [h3, h4, h5] at this
    exact this h
  rw [told_opn_off ho, if_neg h1, if_neg h2]
theorem eq_of_later {i : Nat} {a b : Ent} (ha : EntZ i a) (hb : EntZ i b) (h : a.t.later b.t = 0) : a.t = b.t := by
  obtain ⟨h1, h2, h3⟩ := (later_zero _ _).1 h
  have s1 := ha.1; have s2 := hb.1
  have o1 := ha.2.2.1; have o2 := hb.2.2.1
  revert h1 h2 h3 s1 s2 o1 o2
  generalize a.t = x; generalize b.t = y
  intro h1 h2 h3 s1 s2 o1 o2
  cases x; cases y; simp at *
  exact ⟨by rw [s1, s2], h1, h2, h3, by rw [o1, o2]⟩
theorem tells_of {e : Ent} : e.tells = if e.opens || e.owed then [{ e.t with opn := e.opens }] else [] := rfl
theorem hears_none (e : Ent) : hears e [] = e := rfl
theorem hears_one (e : Ent) (x : Told) : hears e [x] = hearAt e x := rfl
theorem EntZ.quiet {i : Nat} {a : Ent} (h : EntZ i a) (h0 : a.t.ver = 0) : a.tells = [] := by
  rw [h.2.2.2 h0]; simp [Ent.tells, Ent.opens, ent0, told0]
theorem opens_of {a : Ent} (h : 0 < a.t.ver) : a.opens = !a.known := by simp [Ent.opens, h]
/-- two turns, and they are still -/
theorem turns_still {i : Nat} {a b : Ent} (h : Both i (a, b)) : Still (turn (turn (a, b))) := by
  obtain ⟨ha, hb, hka, hkb⟩ := h
  simp only at ha hb hka hkb
  have oa := ha.2.2.1; have ob := hb.2.2.1
  have key : ∀ (t : Told) (o : Bool), t.opn = false → 0 < t.ver → turn (⟨t, true, o⟩, ⟨t, true, false⟩) = (⟨t, true, false⟩, ⟨t, true, false⟩) := by
    intro t o ht hv
    have l0 : t.later t = 0 := (later_zero _ _).2 ⟨rfl, rfl, rfl⟩
    cases o
    · simp [turn, tells_of, Ent.opens, hv, hears_none, Ent.done]
    · simp [turn, tells_of, Ent.opens, hv, hears_none, hears_one, Ent.done, hearAt_eq ht (show t.later (⟨t, true, false⟩ : Ent).t = 0 from l0)]
  have still : ∀ (t : Told), 0 < t.ver → Still ((⟨t, true, false⟩, ⟨t, true, false⟩) : Ent × Ent) := by
    intro t hv
    exact ⟨rfl, by simp [tells_of, Ent.opens, hv], by simp [tells_of, Ent.opens, hv]⟩
  rcases above_tri a.t b.t with hab | hba | heq
  · -- the first one's is later
    have hk : a.known = false := by
      cases hk : a.known
      · rfl
      · exact absurd hab (hka hk)
    have hv : 0 < a.t.ver := by
      have := ha.2.1; have := hb.2.1
      unfold Above at hab
      rcases (show a.t.ver = 0 ∨ 0 < a.t.ver by omega) with h0 | h0
      · have h1 : b.t.ver = 0 := by omega
        have e1 := ha.2.2.2 h0; have e2 := hb.2.2.2 h1
        rw [e1, e2] at hab
        simp [ent0, told0] at hab
      · exact h0
    have t1 : turn (a, b) = (⟨a.t, true, false⟩, ⟨a.t, true, false⟩) := by
      have s1 : a.tells = [{ a.t with opn := true }] := by simp [tells_of, Ent.opens, hv, hk]
      have s2 : hears b a.tells = ⟨a.t, true, true⟩ := by rw [s1, hears_one, hearAt_up oa hab]
      have s3 : (⟨a.t, true, true⟩ : Ent).tells = [{ a.t with opn := false }] := by simp [tells_of, Ent.opens]
      have s4 : a.done = ⟨a.t, false, false⟩ := by simp [Ent.done, hk]
      simp only [turn, s2, s3, s4, hears_one]
      rw [hearAt_eq (e := ⟨a.t, false, false⟩) oa ((later_zero _ _).2 ⟨rfl, rfl, rfl⟩)]
      simp [Ent.done]
    rw [t1, key _ _ oa hv]
    exact still _ hv
  · -- the other one's is later
    have hk : b.known = false := by
      cases hk : b.known
      · rfl
      · exact absurd hba (hkb hk)
    have hv : 0 < b.t.ver := by
      have := ha.2.1; have := hb.2.1
      unfold Above at hba
      rcases (show b.t.ver = 0 ∨ 0 < b.t.ver by omega) with h0 | h0
      · have h1 : a.t.ver = 0 := by omega
        have e1 := ha.2.2.2 h1; have e2 := hb.2.2.2 h0
        rw [e1, e2] at hba
        simp [ent0, told0] at hba
      · exact h0
    have t1 : turn (a, b) = (⟨b.t, true, true⟩, ⟨b.t, false, false⟩) := by
      have s2 : hears b a.tells = b := by
        rw [tells_of]
        split
        · rw [hears_one, hearAt_down oa hba]
        · rfl
      have s3 : b.tells = [{ b.t with opn := true }] := by simp [tells_of, Ent.opens, hv, hk]
      have s4 : hearAt a.done { b.t with opn := true } = ⟨b.t, true, true⟩ := hearAt_up ob hba
      simp only [turn, s2, s3, hears_one, s4]
      simp [Ent.done, hk]
    have t2 : turn ((⟨b.t, true, true⟩, ⟨b.t, false, false⟩) : Ent × Ent) = (⟨b.t, true, false⟩, ⟨b.t, true, false⟩) := by
      have l0 : b.t.later b.t = 0 := (later_zero _ _).2 ⟨rfl, rfl, rfl⟩
      simp [turn, tells_of, Ent.opens, hv, hears_none, hears_one, Ent.done, hearAt_eq ob (show b.t.later (⟨b.t, false, false⟩ : Ent).t = 0 from l0)]
    rw [t1, t2]
    exact still _ hv
  · -- both have the same
    have he := eq_of_later ha hb heq
    rcases (show a.t.ver = 0 ∨ 0 < a.t.ver by have := ha.2.1; omega) with h0 | hv
    · have h1 : b.t.ver = 0 := by rw [← he]; exact h0
      have hs : Still (a, b) := ⟨he, ha.quiet h0, hb.quiet h1⟩
      rw [hs.turn_, hs.turn_]; exact hs
    · obtain ⟨t, ka, qa⟩ := a
      obtain ⟨s, kb, qb⟩ := b
      simp only at he hv oa ob
      subst he
      have l0 : t.later t = 0 := (later_zero _ _).2 ⟨rfl, rfl, rfl⟩
      have L : ∀ (k q : Bool) (x : Bool), hearAt ⟨t, k, q⟩ { t with opn := x } = ⟨t, true, q || x⟩ := fun k q x => hearAt_eq oa l0
      cases ka <;> cases qa <;> cases kb <;> cases qb <;>
        simp [turn, tells_of, Ent.opens, hv, hears_none, hears_one, Ent.done, L, Still]
/-- a told entry that may stand in a slot or be on the way -/
def Fine (n : Nat) (SD : Told → Prop) (t : Told) : Prop := 1 ≤ t.ver ∧ t.ver ≤ n ∧ 1 ≤ t.who ∧ t.who ≤ 9 ∧ t.val.size ≤ 100 ∧ SD t
def EntI (n : Nat) (SD : Told → Prop) (i : Nat) (a : Ent) : Prop := EntZ i a ∧ (0 < a.t.ver → Fine n SD a.t)
def off (x : Told) : Told := { x with opn := false }
def MsgI (N n : Nat) (SD : Told → Prop) (E : List Ent) (x : Told) : Prop := ∃ i, i < N ∧ x.slot = (i : Int) ∧ Fine n SD (off x) ∧ ∀ e, E[i]? = some e → Upto (off x) e.t
structure Meet (N n : Nat) (ES : Nat → List Ent) (W : Nat → List (List Told)) (SD : Told → Prop) : Prop where
  len : ∀ k, k < 2 → (ES k).length = N
  ent : ∀ k, k < 2 → ∀ (i : Nat) (e : Ent), (ES k)[i]? = some e → EntI n SD i e
  kn : ∀ k j, k < 2 → j < 2 → j ≠ k → ∀ (i : Nat) (e e' : Ent), (ES k)[i]? = some e → (ES j)[i]? = some e' → e.known = true → Upto e.t e'.t
  way : ∀ k j, k < 2 → j < 2 → j ≠ k → (W k).length ≤ n ∧ ∀ l ∈ W k, l.length ≤ N ∧ ∀ x ∈ l, MsgI N n SD (ES j) x
/-- no entry became earlier -/
def Grew (E E' : List Ent) : Prop := ∀ (i : Nat) (e e' : Ent), E[i]? = some e → E'[i]? = some e' → e'.t = e.t ∨ Above e'.t e.t
theorem Grew.refl (E : List Ent) : Grew E E := fun i e e' h h' => by rw [h] at h'; injection h' with h'; exact .inl (by rw [h'])
theorem Grew.trans {E E' E'' : List Ent} (h : Grew E E') (h' : Grew E' E'') (hl : E''.length ≤ E'.length) : Grew E E'' := fun i e e'' h1 h2 => by
  have hi : i < E''.length := (List.getElem?_eq_some_iff.1 h2).1
  have h3 : E'[i]? = some (E'[i]'(by omega)) := List.getElem?_eq_getElem (by omega)
  rcases h i e _ h1 h3 with h4 | h4 <;> rcases h' i _ e'' h3 h2 with h5 | h5
  · exact .inl (h5.trans h4)
  · rw [h4] at h5; exact .inr h5
  · rw [h5]; exact .inr h4
  · exact .inr (h5.trans h4)
theorem EntI.ok {n : Nat} {SD : Told → Prop} {i : Nat} {a : Ent} (h : EntI n SD i a) (hn : n ≤ 1000000) : EntOk i a := by
  refine ⟨h.1.1, h.1.2.1, ?_, h.1.2.2.1⟩
  rcases (show a.t.ver = 0 ∨ 0 < a.t.ver by have := h.1.2.1; omega) with h0 | h0
  · omega
  · have := (h.2 h0).2.1; omega
theorem Fine.mono {n n' : Nat} {SD SD' : Told → Prop} {t : Told} (h : Fine n SD t) (hn : n ≤ n') (hs : ∀ t, SD t → SD' t) : Fine n' SD' t :=
  ⟨h.1, by have := h.2.1; omega, h.2.2.1, h.2.2.2.1, h.2.2.2.2.1, hs _ h.2.2.2.2.2⟩
theorem EntI.mono {n n' : Nat} {SD SD' : Told → Prop} {i : Nat} {a : Ent} (h : EntI n SD i a) (hn : n ≤ n') (hs : ∀ t, SD t → SD' t) : EntI n' SD' i a := ⟨h.1, fun h0 => (h.2 h0).mono hn hs⟩
theorem MsgI.mono {N n n' : Nat} {SD SD' : Told → Prop} {E E' : List Ent} {x : Told} (h : MsgI N n SD E x) (hn : n ≤ n') (hs : ∀ t, SD t → SD' t) (hg : Grew E E') (hl : E'.length = E.length) : MsgI N n' SD' E' x := by
  obtain ⟨i, hi, hx, hf, hu⟩ := h
  refine ⟨i, hi, hx, hf.mono hn hs, fun e' he' => ?_⟩
  have hi' : i < E'.length := (List.getElem?_eq_some_iff.1 he').1
  have h1 : E[i]? = some (E[i]'(by omega)) := List.getElem?_eq_getElem (by omega)
  exact (hu _ h1).grew (hg i _ e' h1 he')
section
variable {N n : Nat} {ES : Nat → List Ent} {W : Nat → List (List Told)} {SD : Told → Prop}
theorem Meet.ok (h : Meet N n ES W SD) (hn : n ≤ 1000000) {k : Nat} (hk : k < 2) : EsOk (ES k) := fun i e he => (h.ent k hk i e he).ok hn
/-- one of them is put anew, and no entry of it became earlier -/
theorem Meet.set_ (h : Meet N n ES W SD) {k j : Nat} (hk : k < 2) (hj : j < 2) (hjk : j ≠ k) {es : List Ent} {n' : Nat} {SD' : Told → Prop} (hn : n ≤ n') (hs : ∀ t, SD t → SD' t) (hl : es.length = N) (hg : Grew (ES k) es)
    (he : ∀ (i : Nat) (e : Ent), es[i]? = some e → EntI n' SD' i e) (hkn : ∀ (i : Nat) (e e' : Ent), es[i]? = some e → (ES j)[i]? = some e' → e.known = true → Upto e.t e'.t) : Meet N n' (upd ES k es) W SD' where
  len m hm := by
    by_cases hmk : m = k
    · subst hmk; rw [upd_at]; exact hl
    · rw [upd_ne _ _ hmk]; exact h.len m hm
  ent m hm := by
    by_cases hmk : m = k
    · subst hmk; rw [upd_at]; exact he
    · rw [upd_ne _ _ hmk]; exact fun i e hi => (h.ent m hm i e hi).mono hn hs
  kn m q hm hq hqm i e e' h1 h2 hk3 := by
    by_cases hmk : m = k
    · subst hmk
      rw [upd_at] at h1; rw [upd_ne _ _ hqm] at h2
      have : q = j := by omega
      subst this
      exact hkn i e e' h1 h2 hk3
    · have hqk : q = k := by omega
      subst hqk
      rw [upd_ne _ _ hmk] at h1; rw [upd_at] at h2
      have hi : i < es.length := (List.getElem?_eq_some_iff.1 h2).1
      have h3 : (ES q)[i]? = some ((ES q)[i]'(by rw [h.len q hq]; omega)) := List.getElem?_eq_getElem _
      exact (h.kn m q hm hq hqm i e _ h1 h3 hk3).grew (hg i _ e' h3 h2)
  way m q hm hq hqm := by
    refine ⟨by have := (h.way m q hm hq hqm).1; omega, fun l hlm => ⟨((h.way m q hm hq hqm).2 l hlm).1, fun x hx => ?_⟩⟩
    have h4 := ((h.way m q hm hq hqm).2 l hlm).2 x hx
    by_cases hqk : q = k
    · subst hqk; rw [upd_at]; exact h4.mono hn hs hg (by rw [hl, h.len q hq])
    · rw [upd_ne _ _ hqk]; exact h4.mono hn hs (Grew.refl _) rfl
theorem verAt_get {es : List Ent} {i : Nat} {e : Ent} (h : es[i]? = some e) : verAt es i = e.t.ver := by unfold verAt; rw [h]; rfl
/-- something is said -/
theorem Meet.say (h : Meet N n ES W SD) {k j : Nat} (hk : k < 2) (hj : j < 2) (hjk : j ≠ k) {s : Nat} (hsN : s < N) {v : ByteArray} (hv : v.size ≤ 100) (hn : n < 1000) {t : Told} (ht : t = ⟨(s : Int), verAt (ES k) s + 1, (k : Int) + 1, v, false⟩) :
    sayE (ES k) (s : Int) v = 0 ∧ sayS ((k : Int) + 1) (ES k) (s : Int) v = (ES k).set s ⟨t, false, false⟩ ∧ Grew (ES k) ((ES k).set s ⟨t, false, false⟩) ∧ Meet N (n + 1) (upd ES k ((ES k).set s ⟨t, false, false⟩)) W (fun x => SD x ∨ x = t) := by
  have hl := h.len k hk
  have hs : s < (ES k).length := by omega
  have hes : (ES k)[s]? = some ((ES k)[s]'hs) := List.getElem?_eq_getElem hs
  generalize (ES k)[s]'hs = e0 at hes
  have hI := h.ent k hk s e0 hes
  have hver : verAt (ES k) s = e0.t.ver := verAt_get hes
  have hvn : 0 ≤ e0.t.ver ∧ e0.t.ver ≤ n := by
    refine ⟨hI.1.2.1, ?_⟩
    rcases (show e0.t.ver = 0 ∨ 0 < e0.t.ver by have := hI.1.2.1; omega) with h0 | h0
    · omega
    · exact (hI.2 h0).2.1
  have hE : sayE (ES k) (s : Int) v = 0 := by
    unfold sayE
    rw [if_neg (by omega), if_neg (by omega), if_neg (by rw [Int.toNat_natCast, hver]; omega)]
  have hg : Grew (ES k) ((ES k).set s ⟨t, false, false⟩) := fun i e e' h1 h2 => by
    by_cases hi : i = s
    · subst hi
      rw [List.getElem?_set_self hs] at h2
      injection h2 with h2; subst h2
      rw [hes] at h1; injection h1 with h1; subst h1
      exact .inr (.inl (by rw [ht]; show e0.t.ver < verAt (ES k) i + 1; omega))
    · rw [List.getElem?_set_ne (fun h => hi h.symm), h1] at h2
      injection h2 with h2; exact .inl (by rw [h2])
  refine ⟨hE, ?_, hg, ?_⟩
  · unfold sayS
    rw [if_pos hE, Int.toNat_natCast, ht]
  · refine h.set_ hk hj hjk (Nat.le_succ n) (fun t h => .inl h) (by simpa using hl) hg (fun i e he => ?_) (fun i e e' he he' hkn => ?_)
    · by_cases hi : i = s
      · subst hi
        rw [List.getElem?_set_self hs] at he
        injection he with he; subst he
        refine ⟨⟨by rw [ht], by rw [ht]; show 0 ≤ verAt (ES k) i + 1; omega, by rw [ht], fun h0 => ?_⟩, fun _ => ⟨?_, ?_, ?_, ?_, ?_, .inr rfl⟩⟩
        · rw [ht] at h0; simp at h0; omega
        · rw [ht]; show 1 ≤ verAt (ES k) i + 1; omega
        · rw [ht]; show verAt (ES k) i + 1 ≤ ((n + 1 : Nat) : Int); omega
        · rw [ht]; show 1 ≤ (k : Int) + 1; omega
        · rw [ht]; show (k : Int) + 1 ≤ 9; omega
        · rw [ht]; exact hv
      · rw [List.getElem?_set_ne (fun h => hi h.symm)] at he
        exact (h.ent k hk i e he).mono (Nat.le_succ n) fun t h => .inl h
    · by_cases hi : i = s
      · subst hi
        rw [List.getElem?_set_self hs] at he
        injection he with he; subst he
        cases hkn
      · rw [List.getElem?_set_ne (fun h => hi h.symm)] at he
        exact h.kn k j hk hj hjk i e e' he he' hkn
theorem done_t (e : Ent) : e.done.t = e.t := rfl
theorem EntI.done {n : Nat} {SD : Told → Prop} {i : Nat} {a : Ent} (h : EntI n SD i a) : EntI n SD i a.done := by
  refine ⟨⟨h.1.1, h.1.2.1, h.1.2.2.1, fun h0 => ?_⟩, h.2⟩
  rw [h.1.2.2.2 h0]; rfl
theorem takeS_len (es : List Ent) : (takeS es).length = es.length := by simp [takeS]
theorem takeS_grew (E : List Ent) : Grew E (takeS E) := fun i e e' h1 h2 => by
  rw [takeS_get, h1] at h2; injection h2 with h2; subst h2; exact .inl rfl
theorem tells_msg {i : Nat} {e : Ent} (he : EntI n SD i e) {x : Told} (hx : x ∈ e.tells) : x.slot = (i : Int) ∧ off x = e.t ∧ Fine n SD e.t := by
  have hv : 0 < e.t.ver := by
    rcases (show e.t.ver = 0 ∨ 0 < e.t.ver by have := he.1.2.1; omega) with h0 | h0
    · rw [he.1.quiet h0] at hx; cases hx
    · exact h0
  refine ⟨by rw [tells_slot hx, he.1.1], ?_, he.2 hv⟩
  unfold Ent.tells at hx
  split at hx
  · simp only [List.mem_singleton] at hx
    subst hx
    unfold off
    exact told_opn_off he.1.2.2.1 _
  · cases hx
/-- what is taken is put on the way -/
theorem Meet.take (h : Meet N n ES W SD) {k j : Nat} (hk : k < 2) (hj : j < 2) (hjk : j ≠ k) : Meet N (n + 1) (upd ES k (takeS (ES k))) (upd W j (W j ++ [takeL (ES k)])) SD := by
  have h1 : Meet N (n + 1) (upd ES k (takeS (ES k))) W SD := by
    refine h.set_ hk hj hjk (Nat.le_succ n) (fun _ h => h) (by rw [takeS_len, h.len k hk]) (takeS_grew _) (fun i e he => ?_) (fun i e e' he he' hkn => ?_)
    · rw [takeS_get] at he
      cases hx : (ES k)[i]? with
      | none => rw [hx] at he; cases he
      | some x => rw [hx] at he; injection he with he; subst he; exact ((h.ent k hk i x hx).done).mono (Nat.le_succ n) fun _ h => h
    · rw [takeS_get] at he
      cases hx : (ES k)[i]? with
      | none => rw [hx] at he; cases he
      | some x => rw [hx] at he; injection he with he; subst he; exact h.kn k j hk hj hjk i x e' hx he' hkn
  refine ⟨h1.len, h1.ent, h1.kn, fun m q hm hq hqm => ?_⟩
  by_cases hmj : m = j
  · subst hmj
    rw [upd_at]
    have hqk : q = k := by omega
    subst hqk
    refine ⟨by rw [List.length_append, List.length_singleton]; have := (h.way m q hm hq hqm).1; omega, fun l hl => ?_⟩
    rcases List.mem_append.1 hl with hl | hl
    · exact (h1.way m q hm hq hqm).2 l hl
    · simp only [List.mem_singleton] at hl; subst hl
      refine ⟨by have := takeL_le (ES q); rw [h.len q hq] at this; exact this, fun x hx => ?_⟩
      unfold takeL at hx
      obtain ⟨e, he, hx⟩ := List.mem_flatMap.1 hx
      obtain ⟨i, hi⟩ := List.mem_iff_getElem?.1 he
      obtain ⟨a1, a2, a3⟩ := tells_msg (h.ent q hq i e hi) hx
      refine ⟨i, by have := (List.getElem?_eq_some_iff.1 hi).1; rw [h.len q hq] at this; exact this, a1, by rw [a2]; exact a3.mono (Nat.le_succ n) fun _ h => h, fun e' he' => ?_⟩
      rw [upd_at, takeS_get, hi] at he'
      injection he' with he'; subst he'
      rw [a2, done_t]; exact Upto.refl _
  · rw [upd_ne _ _ hmj]; exact h1.way m q hm hq hqm
theorem hearAt_keeps {E : List Ent} {i : Nat} {e : Ent} {x : Told} (he : EntI n SD i e) (hk : e.known = true → ∀ e', E[i]? = some e' → Upto e.t e'.t) (hx : MsgI N n SD E x) (hi : x.slot = (i : Int)) :
    EntI n SD i (hearAt e x) ∧ ((hearAt e x).known = true → ∀ e', E[i]? = some e' → Upto (hearAt e x).t e'.t) ∧ ((hearAt e x).t = e.t ∨ Above (hearAt e x).t e.t) := by
  obtain ⟨i', _, hx2, hf, hu⟩ := hx
  have : i' = i := by omega
  subst this
  unfold hearAt
  split
  · rename_i h0
    refine ⟨⟨⟨hx2, by have := hf.1; show 0 ≤ (off x).ver; omega, rfl, fun h0 => ?_⟩, fun _ => hf⟩, fun _ => hu, .inr ((above_iff _ _).1 h0)⟩
    have := hf.1; unfold off at this; simp only at this h0; omega
  · split
    · rename_i h0
      refine ⟨⟨⟨he.1.1, he.1.2.1, he.1.2.2.1, fun h1 => ?_⟩, he.2⟩, fun _ e' he' => ?_, .inl rfl⟩
      · have h2 := ((later_zero _ _).1 h0).1
        have := hf.1; unfold off at this; simp only at this h1 h2; omega
      · have h3 : off x = e.t := by
          obtain ⟨h4, h5, h6⟩ := (later_zero _ _).1 h0
          have s1 := he.1.1; have s2 := he.1.2.2.1
          revert h4 h5 h6 s1 s2
          unfold off
          generalize e.t = y
          intro h4 h5 h6 s1 s2
          cases y; simp at *
          exact ⟨by rw [hx2, s1], h4, h5, h6, s2⟩
        rw [← h3]; exact hu e' he'
    · exact ⟨he, hk, .inl rfl⟩
theorem hears_keeps {E : List Ent} {i : Nat} : ∀ (l : List Told) {e : Ent}, EntI n SD i e → (e.known = true → ∀ e', E[i]? = some e' → Upto e.t e'.t) → (∀ x ∈ l, MsgI N n SD E x ∧ x.slot = (i : Int)) →
    EntI n SD i (hears e l) ∧ ((hears e l).known = true → ∀ e', E[i]? = some e' → Upto (hears e l).t e'.t) ∧ ((hears e l).t = e.t ∨ Above (hears e l).t e.t)
  | [], e, he, hk, _ => ⟨he, hk, .inl rfl⟩
  | a :: r, e, he, hk, hl => by
    obtain ⟨a1, a2, a3⟩ := hearAt_keeps he hk (hl a (by simp)).1 (hl a (by simp)).2
    obtain ⟨b1, b2, b3⟩ := hears_keeps r a1 a2 (fun x hx => hl x (by simp [hx]))
    refine ⟨b1, b2, ?_⟩
    show (hears (hearAt e a) r).t = e.t ∨ _
    rcases a3 with h1 | h1 <;> rcases b3 with h2 | h2
    · exact .inl (h2.trans h1)
    · rw [h1] at h2; exact .inr h2
    · right; show Above (hears (hearAt e a) r).t e.t; rw [h2]; exact h1
    · exact .inr (h2.trans h1)
theorem wrong_none {E : List Ent} {x : Told} (h : MsgI N n SD E x) (hn : n ≤ 1000000) : wrongT N x = 0 := by
  obtain ⟨i, hi, hx, hf, _⟩ := h
  obtain ⟨h1, h2, h3, h4, h5, _⟩ := hf
  unfold off at h1 h2 h3 h4 h5
  simp only at h1 h2 h3 h4 h5
  unfold wrongT
  rw [if_neg (by omega), if_neg (by omega), if_neg (by omega)]
theorem wrongL_none {E : List Ent} (hn : n ≤ 1000000) : ∀ (l : List Told), (∀ x ∈ l, MsgI N n SD E x) → wrongL N l = 0
  | [], _ => rfl
  | a :: r, h => by
    unfold wrongL
    rw [wrong_none (h a (by simp)) hn, if_neg (by simp)]
    exact wrongL_none hn r fun x hx => h x (by simp [hx])
/-- one hears what lies on the way to it -/
theorem Meet.hear (h : Meet N n ES W SD) (hN : N ≤ 20) (hn : n ≤ 1000) {k j : Nat} (hk : k < 2) (hj : j < 2) (hjk : j ≠ k) {l : List Told} (hl : l ∈ W k) :
    hearE (ES k) l = 0 ∧ Grew (ES k) (hearS (ES k) l) ∧ Meet N (n + 1) (upd ES k (hearS (ES k) l)) W SD := by
  obtain ⟨hll, hmsg⟩ := (h.way k j hk hj hjk).2 l hl
  have hE : hearE (ES k) l = 0 := by
    unfold hearE
    rw [if_neg (by omega), h.len k hk]
    exact wrongL_none (by omega) l hmsg
  have hpos : ∀ x ∈ l, 0 ≤ x.slot := fun x hx => by obtain ⟨i, _, hi, _⟩ := hmsg x hx; omega
  have get : ∀ i : Nat, (hearS (ES k) l)[i]? = ((ES k)[i]?).map fun e => hears e (l.filter fun x => x.slot == (i : Int)) := fun i => by
    unfold hearS
    rw [if_pos hE]; exact foldl_get i l _ hpos
  have key : ∀ (i : Nat) (e : Ent), (ES k)[i]? = some e → EntI n SD i (hears e (l.filter fun x => x.slot == (i : Int))) ∧ ((hears e (l.filter fun x => x.slot == (i : Int))).known = true → ∀ e', (ES j)[i]? = some e' → Upto (hears e (l.filter fun x => x.slot == (i : Int))).t e'.t) ∧ ((hears e (l.filter fun x => x.slot == (i : Int))).t = e.t ∨ Above (hears e (l.filter fun x => x.slot == (i : Int))).t e.t) := fun i e he => by
    refine hears_keeps (N := N) _ (h.ent k hk i e he) (fun hkn e' he' => h.kn k j hk hj hjk i e e' he he' hkn) fun x hx => ?_
    obtain ⟨h1, h2⟩ := List.mem_filter.1 hx
    exact ⟨hmsg x h1, by simpa using h2⟩
  have hg : Grew (ES k) (hearS (ES k) l) := fun i e e' h1 h2 => by
    rw [get, h1] at h2; injection h2 with h2; subst h2; exact (key i e h1).2.2
  refine ⟨hE, hg, h.set_ hk hj hjk (Nat.le_succ n) (fun _ h => h) (by rw [hearS_length, h.len k hk]) hg (fun i e he => ?_) (fun i e e' he he' hkn => ?_)⟩
  · rw [get] at he
    cases hx : (ES k)[i]? with
    | none => rw [hx] at he; cases he
    | some x => rw [hx] at he; injection he with he; subst he; exact (key i x hx).1.mono (Nat.le_succ n) fun _ h => h
  · rw [get] at he
    cases hx : (ES k)[i]? with
    | none => rw [hx] at he; cases he
    | some x => rw [hx] at he; injection he with he; subst he; exact (key i x hx).2.1 hkn e' he'
theorem Meet.mono (h : Meet N n ES W SD) {n' : Nat} (hn : n ≤ n') : Meet N n' ES W SD :=
  ⟨h.len, fun k hk i e he => (h.ent k hk i e he).mono hn fun _ h => h, h.kn, fun k j hk hj hjk => ⟨by have := (h.way k j hk hj hjk).1; omega, fun l hl => ⟨((h.way k j hk hj hjk).2 l hl).1, fun x hx => (((h.way k j hk hj hjk).2 l hl).2 x hx).mono hn (fun _ h => h) (Grew.refl _) rfl⟩⟩⟩
theorem Meet.begin (N : Nat) (SD : Told → Prop) : Meet N 0 (fun _ => newS N) (fun _ => []) SD := by
  have get : ∀ (i : Nat) (e : Ent), (newS N)[i]? = some e → e = ent0 (i : Int) := fun i e h => by
    simp only [newS, List.getElem?_map] at h
    rcases hh : (List.range N)[i]? with _ | k
    · rw [hh] at h; simp at h
    · rw [hh] at h; simp at h; subst h
      obtain ⟨h1, h2⟩ := List.getElem?_eq_some_iff.1 hh
      simp at h2; subst h2; rfl
  refine ⟨fun _ _ => by simp [newS], fun k _ i e he => ?_, fun k j _ _ _ i e e' he _ hkn => ?_, fun k j _ _ _ => ⟨Nat.zero_le _, fun l hl => by cases hl⟩⟩
  · rw [get i e he]; exact ⟨⟨rfl, Int.le_refl _, rfl, fun _ => rfl⟩, fun h => by simp [ent0, told0] at h⟩
  · rw [get i e he] at hkn; simp [ent0] at hkn
end

/- the last turns -/
def iter : Nat → Ent × Ent → Ent × Ent
  | 0, ab => ab
  | m + 1, ab => turn (iter m ab)
def Conv (N m : Nat) (ES : Nat → List Ent) : Prop := ∀ i, i < N → ∃ ab, Both i ab ∧ (ES 0)[i]? = some (iter m ab).1 ∧ (ES 1)[i]? = some (iter m ab).2
theorem Meet.conv {N n : Nat} {ES : Nat → List Ent} {W : Nat → List (List Told)} {SD : Told → Prop} (h : Meet N n ES W SD) : Conv N 0 ES := fun i hi => by
  have h0 : (ES 0)[i]? = some ((ES 0)[i]'(by rw [h.len 0 (by omega)]; exact hi)) := List.getElem?_eq_getElem _
  have h1 : (ES 1)[i]? = some ((ES 1)[i]'(by rw [h.len 1 (by omega)]; exact hi)) := List.getElem?_eq_getElem _
  exact ⟨(_, _), ⟨(h.ent 0 (by omega) i _ h0).1, (h.ent 1 (by omega) i _ h1).1, h.kn 0 1 (by omega) (by omega) (by omega) i _ _ h0 h1, h.kn 1 0 (by omega) (by omega) (by omega) i _ _ h1 h0⟩, h0, h1⟩
theorem Conv.step {N m : Nat} {ES ES' : Nat → List Ent} (h : Conv N m ES) (o0 : EsOk (ES 0)) (o1 : EsOk (hearS (ES 1) (takeL (ES 0)))) (e1 : hearE (ES 1) (takeL (ES 0)) = 0)
    (e2 : hearE (takeS (ES 0)) (takeL (hearS (ES 1) (takeL (ES 0)))) = 0) (h0 : ES' 0 = hearS (takeS (ES 0)) (takeL (hearS (ES 1) (takeL (ES 0))))) (h1 : ES' 1 = takeS (hearS (ES 1) (takeL (ES 0)))) : Conv N (m + 1) ES' := fun i hi => by
  obtain ⟨ab, hb, ha, hc⟩ := h i hi
  have hq : (hearS (ES 1) (takeL (ES 0)))[i]? = some (hears (iter m ab).2 (iter m ab).1.tells) := by rw [hearS_get o0 e1, hc, ha]; rfl
  refine ⟨ab, hb, ?_, ?_⟩
  · rw [h0, hearS_get o1 e2, takeS_get, ha, hq]; rfl
  · rw [h1, takeS_get, hq]; rfl
theorem flat_nil {l : List Ent} (h : ∀ e ∈ l, e.tells = []) : takeL l = [] := by unfold takeL; rw [List.flatMap_eq_nil_iff]; exact h
theorem tellL_same : ∀ (a b : List Ent), a.length = b.length → (∀ (i : Nat) (x y : Ent), a[i]? = some x → b[i]? = some y → x.t = y.t) → tellL a = tellL b
  | [], [], _, _ => rfl
  | [], _ :: _, h, _ => by cases h
  | _ :: _, [], h, _ => by cases h
  | x :: a, y :: b, h, hs => by
    have h0 := hs 0 x y rfl rfl
    have := tellL_same a b (by simpa using h) fun i u v hu hv => hs (i + 1) u v (by simpa using hu) (by simpa using hv)
    unfold tellL at *
    rw [List.flatMap_cons, List.flatMap_cons, this]
    unfold Ent.says
    rw [h0]
/-- three turns, and both have the same and are silent -/
theorem Conv.done {N : Nat} {ES : Nat → List Ent} (h : Conv N 3 ES) (hl : ∀ k, k < 2 → (ES k).length = N) : tellL (ES 0) = tellL (ES 1) ∧ takeL (ES 0) = [] ∧ takeL (ES 1) = [] := by
  have key : ∀ i, i < N → ∃ a b, (ES 0)[i]? = some a ∧ (ES 1)[i]? = some b ∧ Still (a, b) := fun i hi => by
    obtain ⟨ab, hb, ha, hc⟩ := h i hi
    have hs : Still (iter 3 ab) := by
      have h2 : Still (iter 2 ab) := turns_still hb
      show Still (turn (iter 2 ab))
      rw [h2.turn_]; exact h2
    exact ⟨_, _, ha, hc, hs⟩
  have l0 := hl 0 (by omega)
  have l1 := hl 1 (by omega)
  refine ⟨tellL_same _ _ (by rw [l0, l1]) fun i x y hx hy => ?_, flat_nil fun e he => ?_, flat_nil fun e he => ?_⟩
  · have hi : i < N := by have := (List.getElem?_eq_some_iff.1 hx).1; omega
    obtain ⟨a, b, h1, h2, h3⟩ := key i hi
    rw [h1] at hx; rw [h2] at hy
    injection hx with hx; injection hy with hy
    subst hx; subst hy; exact h3.1
  · obtain ⟨i, hi⟩ := List.mem_iff_getElem?.1 he
    obtain ⟨a, b, h1, h2, h3⟩ := key i (by have := (List.getElem?_eq_some_iff.1 hi).1; omega)
    rw [h1] at hi; injection hi with hi; subst hi; exact h3.2.1
  · obtain ⟨i, hi⟩ := List.mem_iff_getElem?.1 he
    obtain ⟨a, b, h1, h2, h3⟩ := key i (by have := (List.getElem?_eq_some_iff.1 hi).1; omega)
    rw [h2] at hi; injection hi with hi; subst hi; exact h3.2.2
/-- a whole turn -/
theorem Meet.turn_ {N n : Nat} {ES : Nat → List Ent} {W : Nat → List (List Told)} {SD : Told → Prop} (h : Meet N n ES W SD) (hN : N ≤ 20) (hn : n ≤ 900) :
    ∃ W', hearE (ES 1) (takeL (ES 0)) = 0 ∧ EsOk (hearS (ES 1) (takeL (ES 0))) ∧ hearE (takeS (ES 0)) (takeL (hearS (ES 1) (takeL (ES 0)))) = 0 ∧
      Grew (ES 0) (hearS (takeS (ES 0)) (takeL (hearS (ES 1) (takeL (ES 0))))) ∧ Grew (ES 1) (takeS (hearS (ES 1) (takeL (ES 0)))) ∧
      ∀ ES' : Nat → List Ent, ES' 0 = hearS (takeS (ES 0)) (takeL (hearS (ES 1) (takeL (ES 0)))) → ES' 1 = takeS (hearS (ES 1) (takeL (ES 0))) → Meet N (n + 4) ES' W' SD := by
  have m1 := h.take (k := 0) (j := 1) (by omega) (by omega) (by omega)
  have hl1 : takeL (ES 0) ∈ (upd W 1 (W 1 ++ [takeL (ES 0)])) 1 := by rw [upd_at]; simp
  obtain ⟨e1, g1, m2⟩ := m1.hear hN (by omega) (k := 1) (j := 0) (by omega) (by omega) (by omega) hl1
  rw [upd_ne (k := 0) (j := 1) _ _ (by omega)] at e1 g1 m2
  have ok2 := m2.ok (by omega) (k := 1) (by omega)
  rw [upd_at] at ok2
  have m3 := m2.take (k := 1) (j := 0) (by omega) (by omega) (by omega)
  rw [upd_at] at m3
  generalize hS : hearS (ES 1) (takeL (ES 0)) = Q1 at *
  have hl3 : takeL Q1 ∈ (upd (upd W 1 (W 1 ++ [takeL (ES 0)])) 0 ((upd W 1 (W 1 ++ [takeL (ES 0)])) 0 ++ [takeL Q1])) 0 := by rw [upd_at]; simp
  obtain ⟨e3, g3, m4⟩ := m3.hear hN (by omega) (k := 0) (j := 1) (by omega) (by omega) (by omega) hl3
  have u0 : (upd (upd (upd ES 0 (takeS (ES 0))) 1 Q1) 1 (takeS Q1)) 0 = takeS (ES 0) := by
    rw [upd_ne _ _ (by omega), upd_ne _ _ (by omega), upd_at]
  rw [u0] at e3 g3 m4
  refine ⟨upd (upd W 1 (W 1 ++ [takeL (ES 0)])) 0 ((upd W 1 (W 1 ++ [takeL (ES 0)])) 0 ++ [takeL Q1]), e1, ok2, e3, (takeS_grew _).trans g3 (by rw [hearS_length]; exact Nat.le_refl _), g1.trans (takeS_grew _) (by rw [takeS_len]; exact Nat.le_refl _), fun ES' h0 h1 => ?_⟩
  have hE : ∀ k, k < 2 → ES' k = (upd (upd (upd (upd ES 0 (takeS (ES 0))) 1 Q1) 1 (takeS Q1)) 0 (hearS (takeS (ES 0)) (takeL Q1))) k := fun k hk => by
    rcases (show k = 0 ∨ k = 1 by omega) with rfl | rfl
    · rw [h0, upd_at]
    · rw [h1, upd_ne _ _ (by omega), upd_at]
  refine ⟨fun k hk => by rw [hE k hk]; exact m4.len k hk, fun k hk => by rw [hE k hk]; exact m4.ent k hk, fun k j hk hj => by rw [hE k hk, hE j hj]; exact m4.kn k j hk hj, fun k j hk hj => by rw [hE j hj]; exact m4.way k j hk hj⟩

/- what was seen last -/
def zeroT : Told := ⟨0, 0, 0, ⟨#[]⟩, false⟩
def Seen (ES : Nat → List Ent) (LA : Nat → Nat → Told) : Prop := ∀ k, k < 2 → ∀ (i : Nat) (e : Ent), (ES k)[i]? = some e → (0 < e.t.ver → LA k i = e.t) ∧ (e.t.ver = 0 → LA k i = zeroT)
def Pre (ES : Nat → List Ent) (LA : Nat → Nat → Told) : Prop := ∀ k, k < 2 → ∀ (i : Nat) (e : Ent), (ES k)[i]? = some e → (0 < e.t.ver → LA k i = e.t ∨ Above e.t (LA k i)) ∧ (e.t.ver = 0 → LA k i = zeroT)
def Prog (ES : Nat → List Ent) (LA : Nat → Nat → Told) (kk q : Nat) : Prop := ∀ k, k < 2 → ∀ (i : Nat) (e : Ent), (ES k)[i]? = some e → 0 < e.t.ver → (k < kk ∨ (k = kk ∧ e.t ∈ (tellL (ES kk)).take q)) → LA k i = e.t
def set2 (LA : Nat → Nat → Told) (k i : Nat) (t : Told) : Nat → Nat → Told := fun k' i' => if k' = k ∧ i' = i then t else LA k' i'
theorem Seen.begin (N : Nat) : Seen (fun _ => newS N) (fun _ _ => zeroT) := fun k _ i e he => by
  have h := (Meet.begin N (fun _ => True)).ent 0 (by omega) i e he
  refine ⟨fun h0 => ?_, fun _ => rfl⟩
  exfalso
  simp only [newS, List.getElem?_map] at he
  rcases hh : (List.range N)[i]? with _ | k
  · rw [hh] at he; simp at he
  · rw [hh] at he; simp at he; subst he; simp [ent0, told0] at h0
theorem Seen.pre {ES ES' : Nat → List Ent} {LA : Nat → Nat → Told} (h : Seen ES LA) (hg : ∀ k, k < 2 → Grew (ES k) (ES' k)) (hl : ∀ k, k < 2 → (ES' k).length = (ES k).length)
    (hz : ∀ k, k < 2 → ∀ (i : Nat) (e : Ent), (ES k)[i]? = some e → EntZ i e) (hz' : ∀ k, k < 2 → ∀ (i : Nat) (e : Ent), (ES' k)[i]? = some e → EntZ i e) : Pre ES' LA := fun k hk i e' he' => by
  have hi : i < (ES' k).length := (List.getElem?_eq_some_iff.1 he').1
  have he : (ES k)[i]? = some ((ES k)[i]'(by rw [← hl k hk]; exact hi)) := List.getElem?_eq_getElem _
  generalize (ES k)[i]'(by rw [← hl k hk]; exact hi) = e at he
  obtain ⟨s1, s2⟩ := h k hk i e he
  have g := hg k hk i e e' he he'
  have z := hz k hk i e he
  have z' := hz' k hk i e' he'
  refine ⟨fun h0 => ?_, fun h0 => ?_⟩
  · rcases (show e.t.ver = 0 ∨ 0 < e.t.ver by have := z.2.1; omega) with h1 | h1
    · rw [s2 h1]; exact .inr (.inl h0)
    · rw [s1 h1]
      rcases g with g | g
      · exact .inl g.symm
      · exact .inr g
  · rcases (show e.t.ver = 0 ∨ 0 < e.t.ver by have := z.2.1; omega) with h1 | h1
    · exact s2 h1
    · exfalso
      rcases g with g | g
      · rw [g] at h0; omega
      · unfold Above at g; omega
theorem tellL_get {E : List Ent} {q : Nat} {x : Told} (h : (tellL E)[q]? = some x) : ∃ (i : Nat) (e : Ent), E[i]? = some e ∧ e.t = x ∧ 0 < e.t.ver := by
  have hm := List.mem_of_getElem? h
  unfold tellL at hm
  obtain ⟨e, he, hx⟩ := List.mem_flatMap.1 hm
  obtain ⟨i, hi⟩ := List.mem_iff_getElem?.1 he
  unfold Ent.says at hx
  split at hx
  · rename_i h0; simp at hx; exact ⟨i, e, hi, hx.symm, h0⟩
  · cases hx
theorem tellL_mem {E : List Ent} {i : Nat} {e : Ent} (h : E[i]? = some e) (h0 : 0 < e.t.ver) : e.t ∈ tellL E := by
  unfold tellL
  exact List.mem_flatMap.2 ⟨e, List.mem_of_getElem? h, by unfold Ent.says; rw [if_pos h0]; simp⟩
section
variable {ES : Nat → List Ent} {LA : Nat → Nat → Told}
theorem Pre.set_ (h : Pre ES LA) {k i : Nat} {e : Ent} (he : (ES k)[i]? = some e) (h0 : 0 < e.t.ver) : Pre ES (set2 LA k i e.t) := fun k' hk' i' e' he' => by
  unfold set2
  by_cases hc : k' = k ∧ i' = i
  · obtain ⟨rfl, rfl⟩ := hc
    rw [he] at he'; injection he' with he'; subst he'
    rw [if_pos ⟨rfl, rfl⟩]
    exact ⟨fun _ => .inl rfl, fun h1 => by omega⟩
  · rw [if_neg hc]; exact h k' hk' i' e' he'
theorem Prog.begin : Prog ES LA 0 0 := fun k _ i e _ _ h => by
  rcases h with h | ⟨_, h⟩
  · omega
  · simp at h
theorem Prog.set_ {kk q : Nat} (h : Prog ES LA kk q) (hz : ∀ (i : Nat) (e : Ent), (ES kk)[i]? = some e → EntZ i e) {i : Nat} {e : Ent} (he : (ES kk)[i]? = some e) (hq : (tellL (ES kk))[q]? = some e.t) : Prog ES (set2 LA kk i e.t) kk (q + 1) := fun k' hk' i' e' he' h0 hc => by
  unfold set2
  by_cases h1 : k' = kk ∧ i' = i
  · obtain ⟨rfl, rfl⟩ := h1
    rw [he] at he'; injection he' with he'; subst he'
    rw [if_pos ⟨rfl, rfl⟩]
  · rw [if_neg h1]
    refine h k' hk' i' e' he' h0 ?_
    rcases hc with hc | ⟨hc, hm⟩
    · exact .inl hc
    · subst hc
      refine .inr ⟨rfl, ?_⟩
      rw [List.take_add_one, hq] at hm
      rcases List.mem_append.1 hm with hm | hm
      · exact hm
      · exfalso
        simp at hm
        have a1 := (hz i' e' he').1
        have a2 := (hz i e he).1
        rw [hm] at a1
        exact h1 ⟨rfl, by omega⟩
theorem Prog.next {kk q : Nat} (h : Prog ES LA kk q) (hq : (tellL (ES kk)).length ≤ q) : Prog ES LA (kk + 1) 0 := fun k hk i e he h0 hc => by
  refine h k hk i e he h0 ?_
  rcases hc with hc | ⟨_, hm⟩
  · rcases (show k < kk ∨ k = kk by omega) with h1 | h1
    · exact .inl h1
    · subst h1
      exact .inr ⟨rfl, by rw [List.take_of_length_le hq]; exact tellL_mem he h0⟩
  · simp at hm
theorem Prog.seen (h : Prog ES LA 2 0) (hp : Pre ES LA) : Seen ES LA := fun k hk i e he => ⟨fun h0 => h k hk i e he h0 (.inl hk), (hp k hk i e he).2⟩
end
end Go.Proofs.Ytmghigmegiainaa
