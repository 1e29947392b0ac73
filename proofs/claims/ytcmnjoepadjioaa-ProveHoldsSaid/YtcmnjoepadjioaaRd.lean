/- Readings: what a list of cells stands for: integers, bools, texts, slices of these, one in the other; kept by whatever leaves their blocks alone. Nothing of the program is named here. -/
import Derived.Test.YtcmnjoepadjioaaRow3
namespace Go.Proofs.Ytcmnjoepadjioaa
open Go.RowKit

/-- what cells stand for; S: the blocks that are read -/
structure Rep (α : Type) where
  size : Nat
  bulk : α → Nat
  R : World → (Nat → Prop) → List Value → α → Prop
  len : ∀ {w S cs x}, R w S cs x → cs.length = size
  one : ∀ {w S cs x}, R w S cs x → ∀ u ∈ cs, u.oneCell' = true
  keep : ∀ {w w' : World} {S cs x}, R w S cs x → (∀ p : Addr, S p.block → w'.cell? p = w.cell? p) → R w' S cs x
  more : ∀ {w : World} {S S' : Nat → Prop} {cs x}, R w S cs x → (∀ b, S b → S' b) → R w S' cs x

def I64 (x : Int) : Prop := -9223372036854775808 ≤ x ∧ x ≤ 9223372036854775807
theorem i64_of {x : Int} (h : -9223372036854775808 ≤ x) (h' : x ≤ 9223372036854775807) : I64 x := ⟨h, h'⟩
theorem I64.lo {x : Int} (h : I64 x) : -9223372036854775808 ≤ x := h.1
theorem I64.hi {x : Int} (h : I64 x) : x ≤ 9223372036854775807 := h.2
theorem I64.wf {x : Int} (h : I64 x) : (Lit.int .i64 x).wf = true := WalkArith.wf_i64 ⟨h.1, h.2⟩

def rInt : Rep Int where
  size := 1
  bulk _ := 1
  R _ _ cs x := cs = [.int .i64 x] ∧ I64 x
  len h := by rw [h.1]; rfl
  one h := by rw [h.1]; intro u hu; simp at hu; subst hu; rfl
  keep h _ := h
  more h _ := h
def rBool : Rep Bool where
  size := 1
  bulk _ := 1
  R _ _ cs x := cs = [.bool x]
  len h := by rw [h]; rfl
  one h := by rw [h]; intro u hu; simp at hu; subst hu; rfl
  keep h _ := h
  more h _ := h
def rStr : Rep ByteArray where
  size := 1
  bulk s := s.size + 1
  R _ _ cs x := cs = [.string x] ∧ x.size ≤ maxLen
  len h := by rw [h.1]; rfl
  one h := by rw [h.1]; intro u hu; simp at hu; subst hu; rfl
  keep h _ := h
  more h _ := h

section
variable {α : Type} {ρ : Rep α} {w w' : World} {S S' : Nat → Prop} {A : Option Addr} {c : Nat} {xs : List α}

/-- a slice's elements -/
def Sl (ρ : Rep α) (w : World) (S : Nat → Prop) (A : Option Addr) (c : Nat) (xs : List α) : Prop :=
  xs.length ≤ c ∧ c ≤ maxLen ∧ ∀ i x, xs[i]? = some x → ∃ ad u, A = some ad ∧ S ad.block ∧ ρ.R w S u x ∧ ∀ j z, u[j]? = some z → w.cell? (ad.add (i * ρ.size + j)) = some z

theorem Sl.keep (h : Sl ρ w S A c xs) (hk : ∀ p : Addr, S p.block → w'.cell? p = w.cell? p) : Sl ρ w' S A c xs :=
  ⟨h.1, h.2.1, fun i x hx => by
    obtain ⟨ad, u, e, hs, hr, hc⟩ := h.2.2 i x hx
    exact ⟨ad, u, e, hs, ρ.keep hr hk, fun j z hz => (hk _ (by rw [block_of_add]; exact hs)).trans (hc j z hz)⟩⟩
theorem Sl.more (h : Sl ρ w S A c xs) (hm : ∀ b, S b → S' b) : Sl ρ w S' A c xs :=
  ⟨h.1, h.2.1, fun i x hx => by
    obtain ⟨ad, u, e, hs, hr, hc⟩ := h.2.2 i x hx
    exact ⟨ad, u, e, hm _ hs, ρ.more hr hm, hc⟩⟩
theorem Sl.below (h : Sl ρ w S A c xs) (hS : ∀ b, S b → b < w.heap.size) (hb : Below w.heap.size w w') : Sl ρ w' S A c xs := h.keep fun p hp => hb.cell (hS _ hp)
theorem in_below (hS : ∀ b, S b → b < w.heap.size) (hb : Below w.heap.size w w') : ∀ b, S b → b < w'.heap.size := fun b h => Nat.lt_of_lt_of_le (hS b h) hb.size
theorem Sl.nil_ : Sl ρ w S none 0 [] := ⟨by simp, by simp [maxLen], by simp⟩
theorem Sl.le (h : Sl ρ w S A c xs) : xs.length ≤ c := h.1
theorem Sl.max (h : Sl ρ w S A c xs) : c ≤ maxLen := h.2.1
theorem Sl.at_ (h : Sl ρ w S A c xs) {k : Nat} (hk : k < xs.length) : ∃ ad u, A = some ad ∧ S ad.block ∧ ρ.R w S u (xs[k]'hk) ∧ ∀ j z, u[j]? = some z → w.cell? (ad.add (k * ρ.size + j)) = some z :=
  h.2.2 k _ (List.getElem?_eq_getElem hk)
/-- an element of several cells, as the walk spells them -/
theorem Sl.fields (h : Sl ρ w S A c xs) {k : Nat} (hk : k < xs.length) : ∃ ad u, A = some ad ∧ S ad.block ∧ ρ.R w S u (xs[k]'hk) ∧ (∀ z, u[0]? = some z → w.cell? (ad.add (k * ρ.size)) = some z) ∧
    ∀ j z, u[j + 1]? = some z → w.cell? ⟨(ad.add (k * ρ.size)).block, (ad.add (k * ρ.size)).off + (j + 1), none⟩ = some z := by
  obtain ⟨ad, u, e, hs, hr, hc⟩ := h.at_ hk
  refine ⟨ad, u, e, hs, hr, fun z hz => hc 0 z hz, fun j z hz => ?_⟩
  have := hc (j + 1) z hz
  rw [← add_of_add] at this
  exact this
/-- s[k:] -/
theorem Sl.cut (h : Sl ρ w S A c xs) (k : Nat) : Sl ρ w S (if c = k then A else A.map (·.add (k * ρ.size))) (c - k) (xs.drop k) := by
  obtain ⟨h1, h2, h3⟩ := h
  refine ⟨by rw [List.length_drop]; omega, by omega, fun i x hx => ?_⟩
  rw [List.getElem?_drop] at hx
  have hlt : k + i < xs.length := (List.getElem?_eq_some_iff.1 hx).1
  obtain ⟨ad, u, e, hs, hr, hc⟩ := h3 (k + i) x hx
  rw [if_neg (by omega), e]
  refine ⟨_, u, rfl, by rw [block_of_add]; exact hs, hr, fun j z hz => ?_⟩
  rw [add_of_add]
  have := hc j z hz
  rwa [show k * ρ.size + (i * ρ.size + j) = (k + i) * ρ.size + j from by rw [Nat.add_mul]; omega]
/-- s[:k] -/
theorem Sl.top (h : Sl ρ w S A c xs) (k : Nat) : Sl ρ w S A c (xs.take k) := by
  obtain ⟨h1, h2, h3⟩ := h
  refine ⟨by rw [List.length_take]; omega, h2, fun i x hx => h3 i x ?_⟩
  rw [List.getElem?_take] at hx
  split at hx
  · exact hx
  · cases hx

def rList (ρ : Rep α) : Rep (List α) where
  size := 1
  bulk xs := (xs.map ρ.bulk).sum + 1
  R w S cs xs := ∃ A c, cs = [.slice A xs.length c] ∧ Sl ρ w S A c xs
  len := fun ⟨_, _, e, _⟩ => by rw [e]; rfl
  one := fun ⟨_, _, e, _⟩ => by rw [e]; intro u hu; simp at hu; subst hu; rfl
  keep := fun ⟨A, c, e, h⟩ hk => ⟨A, c, e, h.keep hk⟩
  more := fun ⟨A, c, e, h⟩ hm => ⟨A, c, e, h.more hm⟩

/-- cells that stand for a list, one behind the other -/
def Elems (ρ : Rep α) (w : World) (S : Nat → Prop) (cs : List Value) (xs : List α) : Prop :=
  cs.length = xs.length * ρ.size ∧ (∀ u ∈ cs, u.oneCell' = true) ∧ ∀ i x, xs[i]? = some x → ∃ u, ρ.R w S u x ∧ ∀ j z, u[j]? = some z → cs[i * ρ.size + j]? = some z
theorem Elems.nil_ : Elems ρ w S [] [] := ⟨by simp, by simp, by simp⟩
theorem Elems.keep {cs : List Value} (h : Elems ρ w S cs xs) (hk : ∀ p : Addr, S p.block → w'.cell? p = w.cell? p) : Elems ρ w' S cs xs :=
  ⟨h.1, h.2.1, fun i x hx => by obtain ⟨u, hr, hc⟩ := h.2.2 i x hx; exact ⟨u, ρ.keep hr hk, hc⟩⟩
theorem Elems.more {cs : List Value} (h : Elems ρ w S cs xs) (hm : ∀ b, S b → S' b) : Elems ρ w S' cs xs :=
  ⟨h.1, h.2.1, fun i x hx => by obtain ⟨u, hr, hc⟩ := h.2.2 i x hx; exact ⟨u, ρ.more hr hm, hc⟩⟩
theorem Elems.below_ {cs : List Value} (h : Elems ρ w S cs xs) (hS : ∀ b, S b → b < w.heap.size) (hb : Below w.heap.size w w') : Elems ρ w' S cs xs := h.keep fun p hp => hb.cell (hS _ hp)
theorem Elems.app {cs ds : List Value} {ys : List α} (h : Elems ρ w S cs xs) (h' : Elems ρ w S ds ys) : Elems ρ w S (cs ++ ds) (xs ++ ys) := by
  obtain ⟨h1, h2, h3⟩ := h
  obtain ⟨g1, g2, g3⟩ := h'
  refine ⟨by rw [List.length_append, List.length_append, h1, g1, Nat.add_mul], fun u hu => ?_, fun i x hx => ?_⟩
  · rcases List.mem_append.1 hu with hu | hu
    · exact h2 u hu
    · exact g2 u hu
  · by_cases hi : i < xs.length
    · rw [List.getElem?_append_left hi] at hx
      obtain ⟨u, hr, hc⟩ := h3 i x hx
      refine ⟨u, hr, fun j z hz => ?_⟩
      have := hc j z hz
      rw [List.getElem?_append_left (List.getElem?_eq_some_iff.1 this).1]; exact this
    · rw [List.getElem?_append_right (by omega)] at hx
      obtain ⟨u, hr, hc⟩ := g3 _ x hx
      refine ⟨u, hr, fun j z hz => ?_⟩
      have := hc j z hz
      have he : i * ρ.size = (i - xs.length) * ρ.size + cs.length := by rw [h1, ← Nat.add_mul]; congr 1; omega
      rw [he, List.getElem?_append_right (by omega), ← this]
      congr 1; omega
theorem Elems.single {u : List Value} {x : α} (h : ρ.R w S u x) : Elems ρ w S u [x] :=
  ⟨by rw [ρ.len h]; simp, ρ.one h, fun i y hy => by
    have : i = 0 := by have := (List.getElem?_eq_some_iff.1 hy).1; simpa using this
    subst this
    simp at hy; subst hy
    exact ⟨u, h, fun j z hz => by simpa using hz⟩⟩
theorem Elems.snoc {cs u : List Value} {x : α} (h : Elems ρ w S cs xs) (hu : ρ.R w S u x) : Elems ρ w S (cs ++ u) (xs ++ [x]) := h.app (.single hu)
/-- a row of the call's own stands for a list -/
theorem Sl.of_own {base : Nat} {e : TypeId} {cs : List Value} (h : w.ownsRow base e (ρ.size) (.slice A xs.length c) xs.length cs) (he : Elems ρ w S cs xs) (hS : ∀ g, (Value.slice A xs.length c).ownBlock = some g → S g) : Sl ρ w S A c xs := by
  obtain ⟨h1, h2⟩ := h
  rcases h2 with ⟨hv, h0⟩ | ⟨g, cap, cur, hv, hB, hh, hn, hc, hs, ht⟩
  · have : xs = [] := List.eq_nil_of_length_eq_zero h0
    subst this
    simp only [Value.slice.injEq] at hv
    obtain ⟨rfl, _, rfl⟩ := hv
    exact Sl.nil_
  · simp only [Value.slice.injEq] at hv
    obtain ⟨rfl, _, rfl⟩ := hv
    refine ⟨hn, hc, fun i x hx => ?_⟩
    obtain ⟨u, hr, hcs⟩ := he.2.2 i x hx
    refine ⟨_, u, rfl, hS g rfl, hr, fun j z hz => ?_⟩
    have hz2 := hcs j z hz
    have hb : Blk w g e cur := hh
    have e1 : Addr.add ⟨g, 0, none⟩ (i * ρ.size + j) = ⟨g, i * ρ.size + j, none⟩ := by
      unfold Addr.add; split
      · rename_i h; rw [h]
      · simp
    rw [e1, hb.cell]
    rw [← ht, List.getElem?_take] at hz2
    split at hz2
    · rw [← hz2, Array.getElem?_toList]
    · cases hz2
/-- the cells of a slice, for an append -/
theorem Sl.flat (h : Sl ρ w S A c xs) : ∃ cs, Elems ρ w S cs xs ∧ ∀ ad, A = some ad → ∀ j z, cs[j]? = some z → w.cell? (ad.add j) = some z := by
  obtain ⟨_, _, h3⟩ := h
  have key : ∀ n, n ≤ xs.length → ∃ cs, Elems ρ w S cs (xs.take n) ∧ ∀ ad, A = some ad → ∀ j z, cs[j]? = some z → w.cell? (ad.add j) = some z := by
    intro n
    induction n with
    | zero => intro _; exact ⟨[], by simpa using Elems.nil_, by simp⟩
    | succ n ih =>
      intro hn
      obtain ⟨cs, he, hc⟩ := ih (by omega)
      obtain ⟨ad, u, ea, hs, hr, hu⟩ := h3 n _ (List.getElem?_eq_getElem (by omega))
      refine ⟨cs ++ u, ?_, fun ad' ea' j z hz => ?_⟩
      · rw [List.take_succ_eq_append_getElem (by omega)]
        exact he.snoc hr
      · rw [ea] at ea'; injection ea' with ea'; subst ea'
        by_cases hj : j < cs.length
        · rw [List.getElem?_append_left hj] at hz
          exact hc _ ea j z hz
        · rw [List.getElem?_append_right (by omega)] at hz
          have := hu _ z hz
          rwa [show n * ρ.size + (j - cs.length) = j from by have := he.1; rw [List.length_take, Nat.min_eq_left (by omega)] at this; omega] at this
  obtain ⟨cs, he, hc⟩ := key xs.length (Nat.le_refl _)
  exact ⟨cs, by simpa using he, hc⟩
theorem Sl.reads (h : Sl ρ w S A c xs) {B : Nat} (hB : ∀ b, S b → b < B) : ∃ cs, Elems ρ w S cs xs ∧ Reads w B (ρ.size) A xs.length cs := by
  obtain ⟨cs, he, hc⟩ := h.flat
  refine ⟨cs, he, he.1, fun hn => ?_⟩
  obtain ⟨ad, u, ea, hs, _, _⟩ := h.at_ hn
  exact ⟨ad, ea, hB _ hs, hc ad ea⟩
end

/-- two things side by side -/
def rPair {α β : Type} (ρ : Rep α) (σ : Rep β) : Rep (α × β) where
  size := ρ.size + σ.size
  bulk x := ρ.bulk x.1 + σ.bulk x.2
  R w S cs x := ∃ c d, cs = c ++ d ∧ ρ.R w S c x.1 ∧ σ.R w S d x.2
  len := fun ⟨c, d, e, h, h'⟩ => by rw [e, List.length_append, ρ.len h, σ.len h']
  one := fun ⟨c, d, e, h, h'⟩ => by
    rw [e]; intro u hu
    rcases List.mem_append.1 hu with hu | hu
    · exact ρ.one h u hu
    · exact σ.one h' u hu
  keep := fun ⟨c, d, e, h, h'⟩ hk => ⟨c, d, e, ρ.keep h hk, σ.keep h' hk⟩
  more := fun ⟨c, d, e, h, h'⟩ hm => ⟨c, d, e, ρ.more h hm, σ.more h' hm⟩

/-- integers -/
def ints (xs : List Int) : List Value := xs.map (Value.int .i64)
theorem elems_ints {w : World} {S : Nat → Prop} {xs : List Int} (h : ∀ x ∈ xs, I64 x) : Elems rInt w S (ints xs) xs := by
  refine ⟨by simp [ints, rInt], fun u hu => ?_, fun i x hx => ?_⟩
  · simp [ints] at hu; obtain ⟨x, _, rfl⟩ := hu; rfl
  · refine ⟨[.int .i64 x], ⟨rfl, h x (List.mem_of_getElem? hx)⟩, fun j z hz => ?_⟩
    have : j = 0 := by have := (List.getElem?_eq_some_iff.1 hz).1; simpa using this
    subst this
    simp at hz; subst hz
    simp [ints, rInt, hx]
theorem ints_of_elems {w : World} {S : Nat → Prop} {cs : List Value} {xs : List Int} (h : Elems rInt w S cs xs) : cs = ints xs ∧ ∀ x ∈ xs, I64 x := by
  obtain ⟨h1, _, h3⟩ := h
  have hs : rInt.size = 1 := rfl
  simp only [hs, Nat.mul_one] at h1 h3
  refine ⟨List.ext_getElem? fun i => ?_, fun x hx => ?_⟩
  · by_cases hi : i < xs.length
    · obtain ⟨u, ⟨rfl, _⟩, hc⟩ := h3 i _ (List.getElem?_eq_getElem hi)
      have := hc 0 _ rfl
      rw [Nat.add_zero] at this
      rw [this]; simp [ints, hi]
    · rw [List.getElem?_eq_none (by omega), List.getElem?_eq_none (by simp [ints]; omega)]
  · obtain ⟨i, hi⟩ := List.getElem?_of_mem hx
    obtain ⟨u, ⟨_, h⟩, _⟩ := h3 i x hi
    exact h
theorem Sl.int_at {w : World} {S : Nat → Prop} {A : Option Addr} {c : Nat} {xs : List Int} (h : Sl rInt w S A c xs) {k : Nat} (hk : k < xs.length) : ∃ ad, A = some ad ∧ S ad.block ∧ I64 (xs[k]'hk) ∧ w.cell? (ad.add k) = some (.int .i64 (xs[k]'hk)) := by
  obtain ⟨ad, u, e, hs, ⟨rfl, hi⟩, hc⟩ := h.at_ hk
  have := hc 0 _ rfl
  exact ⟨ad, e, hs, hi, by simpa [rInt] using this⟩
theorem Sl.int_reads {w : World} {S : Nat → Prop} {A : Option Addr} {c : Nat} {xs : List Int} (h : Sl rInt w S A c xs) {B : Nat} (hB : ∀ b, S b → b < B) : Reads w B 1 A xs.length (ints xs) := by
  obtain ⟨cs, he, hr⟩ := h.reads hB
  rw [(ints_of_elems he).1] at hr; exact hr
theorem Sl.int_mem {w : World} {S : Nat → Prop} {A : Option Addr} {c : Nat} {xs : List Int} (h : Sl rInt w S A c xs) : ∀ x ∈ xs, I64 x := by
  obtain ⟨cs, he, _⟩ := h.flat
  exact (ints_of_elems he).2
/-- what lies below -/
theorem keep_below {w w' : World} {B : Nat} (h : Below B w w') : ∀ p : Addr, p.block < B → w'.cell? p = w.cell? p := fun _ hp => h.cell hp
end Go.Proofs.Ytcmnjoepadjioaa
