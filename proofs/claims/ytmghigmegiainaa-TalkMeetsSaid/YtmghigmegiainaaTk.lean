/- Talkers: what a told entry and a slot's entry are in memory; rows of slots that are written in place; what the calls answer, in plain words. -/
import Derived.Test.YtmghigmegiainaaRo
import Derived.BigQuiet
import Derived.RegionTactic
import Derived.Deep.RegionWith
import Derived.Deep.RegionHeld3
import Derived.Deep.DeepCutAuto
import Derived.Lib.Walk
import Derived.StillTailTactics
import Derived.Lib.SliceRun
namespace Go.Proofs.Ytmghigmegiainaa
open Go.RowKit

structure Told where
  slot : Int
  ver : Int
  who : Int
  val : ByteArray
  opn : Bool
def Told.cells (x : Told) : List Value := [.int .i64 x.slot, .int .i64 x.ver, .int .i64 x.who, .string x.val, .bool x.opn]
def Told.fits (x : Told) : Prop := I64 x.slot ∧ I64 x.ver ∧ I64 x.who ∧ x.val.size ≤ maxLen
def rTold : Rep Told where
  size := 5
  bulk x := x.val.size + 5
  R _ _ cs x := cs = x.cells ∧ x.fits
  len h := by rw [h.1]; rfl
  one h := by rw [h.1]; intro u hu; simp [Told.cells] at hu; rcases hu with rfl | rfl | rfl | rfl | rfl <;> rfl
  keep h _ := h
  more h _ := h
structure Ent where
  t : Told
  known : Bool
  owed : Bool
def Ent.cells (e : Ent) : List Value := [.int .i64 e.t.slot, .int .i64 e.t.ver, .int .i64 e.t.who, .string e.t.val, .bool e.t.opn, .bool e.known, .bool e.owed]
theorem Ent.seven {e : Ent} {j : Nat} {z : Value} (h : e.cells[j]? = some z) : j < 7 := by
  have := (List.getElem?_eq_some_iff.1 h).1; simpa [Ent.cells] using this

/-- a row of slots -/
def Slots (w : World) (et : TypeId) (gs c : Nat) (es : List Ent) : Prop :=
  ∃ cur : Array Value, Blk w gs et cur ∧ cur.size = c * 7 ∧ es.length ≤ c ∧ c ≤ maxLen ∧ ∀ (i : Nat) (e : Ent), es[i]? = some e → e.t.fits ∧ ∀ (j : Nat) (z : Value), e.cells[j]? = some z → cur[i * 7 + j]? = some z

section
variable {w w' : World} {et gs c : Nat} {es : List Ent}
theorem Slots.lt (h : Slots w et gs c es) : gs < w.heap.size := by obtain ⟨cur, hb, _⟩ := h; exact hb.lt
theorem Slots.le (h : Slots w et gs c es) : es.length ≤ c ∧ c ≤ maxLen := by obtain ⟨cur, _, _, h1, h2, _⟩ := h; exact ⟨h1, h2⟩
theorem Slots.keep (h : Slots w et gs c es) (hk : w'.heap[gs]? = w.heap[gs]?) : Slots w' et gs c es := by
  obtain ⟨cur, hb, h⟩ := h; exact ⟨cur, hk.trans hb, h⟩
theorem Slots.grown {row : Option Nat} (h : Slots w et gs c es) (hg : w.grownBy w' row) (hne : some gs ≠ row) : Slots w' et gs c es := h.keep (hg.block gs h.lt hne)
theorem Slots.below (h : Slots w et gs c es) (hb : Below w.heap.size w w') : Slots w' et gs c es := h.keep (hb.block gs h.lt)
theorem Slots.blk (h : Slots w et gs c es) : ∃ cur : Array Value, Blk w gs et cur ∧ cur.size = c * 7 := by obtain ⟨cur, hb, h1, _⟩ := h; exact ⟨cur, hb, h1⟩
theorem Slots.fits (h : Slots w et gs c es) {i : Nat} (hi : i < es.length) : (es[i]'hi).t.fits := by
  obtain ⟨cur, _, _, _, _, h⟩ := h; exact (h i _ (List.getElem?_eq_getElem hi)).1
theorem Slots.at_ (h : Slots w et gs c es) {i : Nat} (hi : i < es.length) : ∀ (j : Nat) (z : Value), (es[i]'hi).cells[j]? = some z → w.cell? ⟨gs, i * 7 + j, none⟩ = some z := by
  obtain ⟨cur, hb, _, _, _, h⟩ := h
  intro j z hz
  rw [hb.cell]; exact (h i _ (List.getElem?_eq_getElem hi)).2 j z hz
theorem Slots.frozen (h : Slots w et gs c es) (k : Nat) : w.frozen? ⟨gs, k, none⟩ = false := by obtain ⟨cur, hb, _⟩ := h; exact hb.frozen k
/-- one cell written -/
theorem Slots.set1 (h : Slots w et gs c es) {i j : Nat} {v : Value} {e' : Ent} (hi : i < es.length) (hj : j < 7) (hf : e'.t.fits) (he : e'.cells = (es[i]'hi).cells.set j v) :
    Slots (w.setCell ⟨gs, i * 7 + j, none⟩ v) et gs c (es.set i e') := by
  obtain ⟨cur, hb, h1, h2, h3, h⟩ := h
  refine ⟨_, hb.set_ (i * 7 + j) v, by simpa using h1, by simpa using h2, h3, fun m x hx => ?_⟩
  have hml : m < es.length := by have := (List.getElem?_eq_some_iff.1 hx).1; rwa [List.length_set] at this
  by_cases hmi : m = i
  · subst hmi
    rw [List.getElem?_set_self hml] at hx
    injection hx with hx; subst hx
    refine ⟨hf, fun k z hz => ?_⟩
    have hk := Ent.seven hz
    rw [he, List.getElem?_set] at hz
    rw [Array.getElem?_setIfInBounds]
    by_cases hkj : j = k
    · subst hkj
      rw [if_pos rfl] at hz ⊢
      rw [if_pos (by omega)]
      split at hz
      · exact hz
      · cases hz
    · rw [if_neg hkj] at hz
      rw [if_neg (by omega)]
      exact (h m _ (List.getElem?_eq_getElem hml)).2 k z hz
  · rw [List.getElem?_set_ne (fun h => hmi h.symm)] at hx
    obtain ⟨hf', hu⟩ := h m x hx
    refine ⟨hf', fun k z hz => ?_⟩
    have hk := Ent.seven hz
    rw [Array.getElem?_setIfInBounds, if_neg (by omega)]
    exact hu k z hz
theorem Slots.same (h : Slots w et gs c es) {i j : Nat} {v : Value} (hi : i < es.length) (hj : j < 7) (he : (es[i]'hi).cells[j]? = some v) : Slots (w.setCell ⟨gs, i * 7 + j, none⟩ v) et gs c es := by
  have := h.set1 (v := v) (e' := es[i]'hi) hi hj (h.fits hi) (by
    refine List.ext_getElem? fun k => ?_
    rw [List.getElem?_set]
    by_cases hk : j = k
    · subst hk; rw [if_pos rfl, if_pos (by simpa [Ent.cells] using hj), he]
    · rw [if_neg hk])
  rwa [List.set_getElem_self] at this
/-- a whole entry written -/
theorem Slots.set7 (h : Slots w et gs c es) {i : Nat} {e' : Ent} (hi : i < es.length) (hf : e'.t.fits) :
    Slots (((((((w.setCell ⟨gs, i * 7, none⟩ (.int .i64 e'.t.slot)).setCell ⟨gs, i * 7 + 1, none⟩ (.int .i64 e'.t.ver)).setCell ⟨gs, i * 7 + 2, none⟩ (.int .i64 e'.t.who)).setCell ⟨gs, i * 7 + 3, none⟩ (.string e'.t.val)).setCell ⟨gs, i * 7 + 4, none⟩ (.bool e'.t.opn)).setCell ⟨gs, i * 7 + 5, none⟩ (.bool e'.known)).setCell ⟨gs, i * 7 + 6, none⟩ (.bool e'.owed)) et gs c (es.set i e') := by
  obtain ⟨cur, hb, h1, h2, h3, h⟩ := h
  refine ⟨_, ((((((hb.set_ (i * 7) _).set_ (i * 7 + 1) _).set_ (i * 7 + 2) _).set_ (i * 7 + 3) _).set_ (i * 7 + 4) _).set_ (i * 7 + 5) _).set_ (i * 7 + 6) _, by simpa using h1, by simpa using h2, h3, fun m x hx => ?_⟩
  have hml : m < es.length := by have := (List.getElem?_eq_some_iff.1 hx).1; rwa [List.length_set] at this
  by_cases hmi : m = i
  · subst hmi
    rw [List.getElem?_set_self hml] at hx
    injection hx with hx; subst hx
    refine ⟨hf, fun k z hz => ?_⟩
    have hk := Ent.seven hz
    have hsz : m * 7 + 6 < cur.size := by omega
    match k, hk with
    | 0, _ | 1, _ | 2, _ | 3, _ | 4, _ | 5, _ | 6, _ =>
      simp [Ent.cells] at hz; subst hz
      simp only [Array.getElem?_setIfInBounds, Array.size_setIfInBounds]
      simp
      omega
  · rw [List.getElem?_set_ne (fun h => hmi h.symm)] at hx
    obtain ⟨hf', hu⟩ := h m x hx
    refine ⟨hf', fun k z hz => ?_⟩
    have hk := Ent.seven hz
    simp only [Array.getElem?_setIfInBounds]
    rw [if_neg (by omega), if_neg (by omega), if_neg (by omega), if_neg (by omega), if_neg (by omega), if_neg (by omega), if_neg (by omega)]
    exact hu k z hz
end

/-- a talker: its header and its slots -/
structure Tk (w : World) (ht et g gs c : Nat) (who : Int) (es : List Ent) : Prop where
  head : Blk w g ht #[.int .i64 who, .slice (some ⟨gs, 0, none⟩) es.length c]
  row : Slots w et gs c es
  ne : g ≠ gs
theorem Tk.grown {w w' : World} {ht et g gs c : Nat} {who : Int} {es : List Ent} {row : Option Nat} (h : Tk w ht et g gs c who es) (hg : w.grownBy w' row) (h1 : some g ≠ row) (h2 : some gs ≠ row) : Tk w' ht et g gs c who es :=
  ⟨h.head.grown hg h1, h.row.grown hg h2, h.ne⟩
theorem Tk.below {w w' : World} {ht et g gs c : Nat} {who : Int} {es : List Ent} (h : Tk w ht et g gs c who es) (hb : Below w.heap.size w w') : Tk w' ht et g gs c who es :=
  ⟨h.head.below hb h.head.lt, h.row.below hb, h.ne⟩
theorem Tk.put {w w' : World} {ht et g gs c : Nat} {who : Int} {es es' : List Ent} (h : Tk w ht et g gs c who es) (hg : w.grownBy w' (some gs)) (hs : Slots w' et gs c es') (hl : es'.length = es.length) : Tk w' ht et g gs c who es' :=
  ⟨by rw [hl]; exact h.head.grown hg (by intro e; injection e with e; exact h.ne e), hs, h.ne⟩

/- what the calls answer -/
def told0 (i : Int) : Told := ⟨i, 0, 0, ⟨#[]⟩, false⟩
def ent0 (i : Int) : Ent := ⟨told0 i, false, false⟩
def newE (who slots : Int) : Int := if who < 1 ∨ 9 < who then 3 else if slots < 1 ∨ 20 < slots then 7 else 0
def newS (n : Nat) : List Ent := (List.range n).map fun (i : Nat) => ent0 (i : Int)
def cmpI (x y : Int) : Int := if x < y then -1 else if y < x then 1 else 0
def strLt (x y : ByteArray) : Bool := Op.bytesLess x.toList y.toList
def strGt (x y : ByteArray) : Bool := !(Op.bytesLess x.toList y.toList || x.toList == y.toList)
def cmpS (x y : ByteArray) : Int := if strLt x y then -1 else if strGt x y then 1 else 0
def or3 (a b c : Int) : Int := if a ≠ 0 then a else if b ≠ 0 then b else c
def Told.later (a b : Told) : Int := or3 (cmpI a.ver b.ver) (cmpI a.who b.who) (cmpS a.val b.val)
def verAt (es : List Ent) (i : Nat) : Int := ((es[i]?).map fun e => e.t.ver).getD 0
def sayE (es : List Ent) (slot : Int) (v : ByteArray) : Int :=
  if slot < 0 ∨ (es.length : Int) ≤ slot then 5 else if 100 < v.size then 2 else if verAt es slot.toNat = 1000000 then 7 else 0
def sayS (who : Int) (es : List Ent) (slot : Int) (v : ByteArray) : List Ent :=
  if sayE es slot v = 0 then es.set slot.toNat ⟨⟨slot, verAt es slot.toNat + 1, who, v, false⟩, false, false⟩ else es
def Ent.opens (e : Ent) : Bool := decide (0 < e.t.ver) && !e.known
def Ent.tells (e : Ent) : List Told := if e.opens || e.owed then [{ e.t with opn := e.opens }] else []
def Ent.done (e : Ent) : Ent := { e with owed := false }
def takeL (es : List Ent) : List Told := es.flatMap Ent.tells
def takeS (es : List Ent) : List Ent := es.map Ent.done
def Ent.says (e : Ent) : List Told := if 0 < e.t.ver then [e.t] else []
def tellL (es : List Ent) : List Told := es.flatMap Ent.says
def wrongT (n : Nat) (x : Told) : Int :=
  if x.slot < 0 ∨ (n : Int) ≤ x.slot then 5 else if x.ver < 1 ∨ 1000000 < x.ver ∨ x.who < 1 ∨ 9 < x.who then 3 else if 100 < x.val.size then 2 else 0
def wrongL (n : Nat) : List Told → Int
  | [] => 0
  | x :: r => if wrongT n x ≠ 0 then wrongT n x else wrongL n r
def hearE (es : List Ent) (l : List Told) : Int := if 20 < l.length then 7 else wrongL es.length l
def hear1 (es : List Ent) (x : Told) : List Ent :=
  match es[x.slot.toNat]? with
  | none => es
  | some e =>
    if 0 < ({ x with opn := false } : Told).later e.t then es.set x.slot.toNat ⟨{ x with opn := false }, true, x.opn⟩
    else if ({ x with opn := false } : Told).later e.t = 0 then es.set x.slot.toNat { e with known := true, owed := e.owed || x.opn }
    else es
def hearS (es : List Ent) (l : List Told) : List Ent := if hearE es l = 0 then l.foldl hear1 es else es
theorem hear1_length (es : List Ent) (x : Told) : (hear1 es x).length = es.length := by
  unfold hear1; split
  · rfl
  · split
    · simp
    · split <;> simp
theorem wrongL_eq {n : Nat} {l : List Told} (h : wrongL n l = 0) : ∀ x ∈ l, wrongT n x = 0 := by
  induction l with
  | nil => simp
  | cons a r ih =>
    intro x hx
    unfold wrongL at h
    split at h
    · contradiction
    · rename_i h0
      simp only [ne_eq, Decidable.not_not] at h0
      rcases List.mem_cons.1 hx with rfl | hx
      · exact h0
      · exact ih h x hx
theorem wrongL_drop {n : Nat} {l : List Told} {k : Nat} (hk : k < l.length) : wrongL n (l.drop k) = if wrongT n (l[k]'hk) ≠ 0 then wrongT n (l[k]'hk) else wrongL n (l.drop (k + 1)) := by
  rw [List.drop_eq_getElem_cons hk]; rfl
/-- what a talker keeps -/
def EntOk (i : Nat) (e : Ent) : Prop := e.t.slot = i ∧ 0 ≤ e.t.ver ∧ e.t.ver ≤ 1000000 ∧ e.t.opn = false
def EsOk (es : List Ent) : Prop := ∀ i e, es[i]? = some e → EntOk i e
theorem EsOk.set_ {es : List Ent} (h : EsOk es) {i : Nat} {e : Ent} (he : EntOk i e) : EsOk (es.set i e) := by
  intro m x hx
  by_cases hmi : m = i
  · subst hmi
    rw [List.getElem?_set] at hx
    simp at hx
    obtain ⟨_, rfl⟩ := hx
    exact he
  · rw [List.getElem?_set_ne (fun h => hmi h.symm)] at hx
    exact h m x hx
theorem EsOk.new (n : Nat) : EsOk (newS n) := by
  intro i e h
  simp only [newS, List.getElem?_map] at h
  rcases hh : (List.range n)[i]? with _ | k
  · rw [hh] at h; simp at h
  · rw [hh] at h; simp at h; subst h
    have := List.getElem?_eq_some_iff.1 hh
    obtain ⟨h1, h2⟩ := this
    simp at h2; subst h2
    exact ⟨rfl, by simp [ent0, told0], by simp [ent0, told0], rfl⟩
theorem EsOk.verAt {es : List Ent} (h : EsOk es) (i : Nat) : 0 ≤ verAt es i ∧ verAt es i ≤ 1000000 := by
  unfold Proofs.Ytmghigmegiainaa.verAt
  rcases hh : es[i]? with _ | e
  · simp
  · obtain ⟨_, h3, h4, _⟩ := h _ _ hh
    simp; omega
theorem EsOk.say {es : List Ent} (h : EsOk es) (who slot : Int) (v : ByteArray) : EsOk (sayS who es slot v) := by
  unfold sayS
  split
  · rename_i h0
    unfold sayE at h0
    split at h0
    · cases h0
    · split at h0
      · cases h0
      · split at h0
        · cases h0
        · rename_i h1 _ h2
          have := h.verAt slot.toNat
          refine h.set_ ⟨by show slot = _; omega, by show 0 ≤ Proofs.Ytmghigmegiainaa.verAt _ _ + 1; omega, by show Proofs.Ytmghigmegiainaa.verAt _ _ + 1 ≤ _; omega, rfl⟩
  · exact h
theorem EsOk.take {es : List Ent} (h : EsOk es) : EsOk (takeS es) := by
  intro i e he
  simp only [takeS, List.getElem?_map] at he
  rcases hh : es[i]? with _ | x
  · rw [hh] at he; simp at he
  · rw [hh] at he; simp at he; subst he
    exact h i x hh
theorem EsOk.hear1 {es : List Ent} (h : EsOk es) {x : Told} (hx : wrongT es.length x = 0) : EsOk (hear1 es x) := by
  unfold wrongT at hx
  unfold Proofs.Ytmghigmegiainaa.hear1
  split
  · exact h
  · rename_i e he
    split at hx
    · cases hx
    · split at hx
      · cases hx
      · split
        · refine h.set_ ⟨by show x.slot = _; omega, by show 0 ≤ x.ver; omega, by show x.ver ≤ _; omega, rfl⟩
        · split
          · have h9 := h _ e he
            exact h.set_ ⟨h9.1, h9.2.1, h9.2.2.1, h9.2.2.2⟩
          · exact h
theorem EsOk.foldl {l : List Told} : ∀ {es : List Ent}, EsOk es → (∀ x ∈ l, wrongT es.length x = 0) → EsOk (l.foldl Proofs.Ytmghigmegiainaa.hear1 es) := by
  induction l with
  | nil => intro es h _; exact h
  | cons a r ih => intro es h hx; exact ih (h.hear1 (hx a (by simp))) (fun x h => by rw [hear1_length]; exact hx x (by simp [h]))
theorem EsOk.hear {es : List Ent} (h : EsOk es) (l : List Told) : EsOk (hearS es l) := by
  unfold hearS
  split
  · rename_i h0
    unfold hearE at h0
    split at h0
    · cases h0
    · exact h.foldl (wrongL_eq h0)
  · exact h
theorem foldl_length (l : List Told) : ∀ es : List Ent, (l.foldl hear1 es).length = es.length := by
  induction l with
  | nil => intro es; rfl
  | cons a r ih => intro es; rw [List.foldl_cons, ih, hear1_length]
theorem hearS_length (es : List Ent) (l : List Told) : (hearS es l).length = es.length := by
  unfold hearS; split
  · exact foldl_length l es
  · rfl
theorem sayS_length (who : Int) (es : List Ent) (slot : Int) (v : ByteArray) : (sayS who es slot v).length = es.length := by
  unfold sayS; split <;> simp
end Go.Proofs.Ytmghigmegiainaa
