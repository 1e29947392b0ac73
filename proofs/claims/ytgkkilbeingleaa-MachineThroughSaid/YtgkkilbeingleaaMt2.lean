/- Texts that the proof rests on, part 2: what each holds stands at its head. -/
import Derived.Test.YtgkkilbeingleaaMt1
import Derived.Maps.OwnOps
import Derived.Maps.Views
import Derived.Maps.RangeWalk
import Derived.DeepKeys4

/- A map of the call's own, as a function from keys to what is there: made, looked up (with ok, too), written, ranged over. Nothing of the program is named here. -/
namespace Go.Proofs.Ytgkkilbeingleaa
open Go.RowKit Go.Maps

def rHeld (v : Value) : Option (DataW Value × List MemPlace) := some (.held v, [])
theorem rHeld_inv {v : Value} {y : DataW Value × List MemPlace} (h : rHeld v = some y) : y = (.held v, []) := by unfold rHeld at h; injection h with h; exact h.symm
/-- a datum reads as a function -/
def Reads1 (P : Program) (k : TypeId) (D : DataW Value) (f : Value → Option Value) : Prop :=
  ∀ (key : Value) (l : Lit), keyOf P k key = some l → ∀ zd, D.atKey l zd = match f key with
    | some v => .held v
    | none => zd
/-- block b is a map of at most n entries; what is there is f's -/
def MapOf (P : Program) (k : TypeId) (w : World) (b n : Nat) (f : Value → Option Value) : Prop :=
  ∃ D : DataW Value, w.ownsMap P k rHeld b n D ∧ Reads1 P k D f
open Classical in
noncomputable def putO (f : Value → Option Value) (key v : Value) : Value → Option Value := fun x => if x = key then some v else f x
theorem putO_same (f : Value → Option Value) (key v : Value) : putO f key v key = some v := by simp [putO]
theorem putO_other (f : Value → Option Value) {key x : Value} (v : Value) (h : x ≠ key) : putO f key v x = f x := by simp [putO, h]
section
variable {P : Program} {k : TypeId} {w w' : World} {b n : Nat} {f : Value → Option Value}
theorem MapOf.made (w : World) (P : Program) (k : TypeId) : MapOf P k (w.alloc (.map #[] 0)) w.heap.size 0 (fun _ => none) :=
  ⟨_, World.ownsMap_made w P k rHeld, fun _ _ _ _ => rfl⟩
theorem MapOf.lt (h : MapOf P k w b n f) : b < w.heap.size := by obtain ⟨D, h, _⟩ := h; exact h.lt
theorem MapOf.mono (h : MapOf P k w b n f) {n' : Nat} (hn : n ≤ n') : MapOf P k w b n' f := by obtain ⟨D, h, hf⟩ := h; exact ⟨D, h.mono hn, hf⟩
theorem MapOf.grown {row : Option Nat} (h : MapOf P k w b n f) (hg : w.grownBy w' row) (hne : some b ≠ row) : MapOf P k w' b n f := by
  obtain ⟨D, h, hf⟩ := h; exact ⟨D, h.kept hg hne, hf⟩
theorem MapOf.alloc (h : MapOf P k w b n f) (o : Obj) : MapOf P k (w.alloc o) b n f := h.grown (World.grownBy_alloc w o none) (by simp)
theorem MapOf.drew (h : MapOf P k w b n f) : MapOf P k w.drew b n f := h
theorem MapOf.drewN (h : MapOf P k w b n f) (m : Nat) : MapOf P k (w.drewN m) b n f := h
theorem MapOf.below {B : Nat} (h : MapOf P k w b n f) (hb : Below B w w') (hlt : b < B) : MapOf P k w' b n f := by
  obtain ⟨D, ⟨es, clock, hm, h1, h2, h3⟩, hf⟩ := h
  exact ⟨D, ⟨es, clock, (hb.block b hlt).trans hm, h1, h2, h3⟩, hf⟩
theorem MapOf.notBlk {t : TypeId} {cs : Array Value} (h : MapOf P k w b n f) {g : Nat} (hb : Blk w g t cs) : b ≠ g := by
  obtain ⟨D, ⟨es, clock, hm, _⟩, _⟩ := h
  intro e; subst e; unfold Blk at hb; rw [hb] at hm; cases hm
theorem MapOf.setFar (h : MapOf P k w b n f) {p : Addr} (hp : b ≠ p.block) (u : Value) : MapOf P k (w.setCell p u) b n f := by
  obtain ⟨D, ⟨es, clock, hm, h1, h2, h3⟩, hf⟩ := h
  exact ⟨D, ⟨es, clock, (Below.heap_setCell w p u b hp).trans hm, h1, h2, h3⟩, hf⟩
theorem MapOf.notOwn {base : Nat} {e : TypeId} {size m : Nat} {v : Value} {xs : List Value} (h : MapOf P k w b n f) (ho : w.ownsRow base e size v m xs) : some b ≠ v.ownBlock := by
  obtain ⟨D, ⟨es, clock, hm, _⟩, _⟩ := h
  rcases ho.2 with ⟨rfl, _⟩ | ⟨g, cap, cur, rfl, _, hh, _⟩
  · simp [Value.ownBlock]
  · intro e; simp [Value.ownBlock] at e; subst e; rw [hm] at hh; cases hh
theorem MapOf.lookAny {t e : TypeId} (c : Bool) (h : MapOf P k w b n f) (K : Keyed P k) (ht : P.underlying t = some (.map k e)) {z : Value} (hz : (zeroValue e).run P w = .ok z w) {key : Value} (hk : (keyOf P k key).isSome = true) :
    (Instr.lookup t (.map (some b)) key c).run P w = .ok (if c then .tuple #[(f key).getD z, .bool (f key).isSome] else (f key).getD z) w := by
  obtain ⟨D, ⟨es, clock, hb, F, hs, rfl⟩, hf⟩ := h
  obtain ⟨l, hl⟩ := Option.isSome_iff_exists.1 hk
  have hfl := hf key l hl
  rcases Maps.fit_look c K ht hz hb F hl with ⟨h1, _, h3⟩ | ⟨e0, y, _, _, h1, h2, h3, _⟩
  · have hn : f key = none := by
      have a1 := hfl (.held z)
      have a2 := hfl (.lit (.int .i64 0))
      rw [h3] at a1 a2
      cases hk : f key with
      | none => rfl
      | some v => rw [hk] at a1 a2; simp only at a1 a2; rw [← a1] at a2; cases a2
    rw [h1, hn]; cases c <;> rfl
  · have hv := rHeld_inv h2
    subst hv
    have hs : f key = some e0.val := by
      cases hk : f key with
      | none =>
        have a1 := hfl (.lit (.int .i64 0))
        rw [h3, hk] at a1; simp only at a1; cases a1
      | some v =>
        have a1 := hfl (.held z)
        rw [h3, hk] at a1; simp only at a1; injection a1 with a1; rw [a1]
    rw [h1, hs]; cases c <;> rfl
theorem MapOf.look {t e : TypeId} (h : MapOf P k w b n f) (K : Keyed P k) (ht : P.underlying t = some (.map k e)) {z : Value} (hz : (zeroValue e).run P w = .ok z w) {key : Value} (hk : (keyOf P k key).isSome = true) :
    (Instr.lookup t (.map (some b)) key false).run P w = .ok ((f key).getD z) w := h.lookAny false K ht hz hk
theorem MapOf.lookOk {t e : TypeId} (h : MapOf P k w b n f) (K : Keyed P k) (ht : P.underlying t = some (.map k e)) {z : Value} (hz : (zeroValue e).run P w = .ok z w) {key : Value} (hk : (keyOf P k key).isSome = true) :
    (Instr.lookup t (.map (some b)) key true).run P w = .ok (.tuple #[(f key).getD z, .bool (f key).isSome]) w := h.lookAny true K ht hz hk
theorem Reads1.put {D : DataW Value} {key v : Value} {l : Lit} (h : Reads1 P k D f) (K : Keyed P k) (hD : IsMap D) (hl : keyOf P k key = some l) : Reads1 P k (D.put l (.held v)) (putO f key v) := by
  intro x l' hl' zd
  by_cases hx : x = key
  · subst hx
    rw [hl] at hl'; injection hl' with hl'; subst hl'
    rw [putO_same, atKey_put_same hD (K.key hl)]
  · have hll : l' ≠ l := fun e => hx (K.inj hl' (by rw [e]; exact hl))
    rw [putO_other _ _ hx, atKey_put_other hll]
    exact h x l' hl' zd
theorem MapOf.store {t e : TypeId} (h : MapOf P k w b n f) (K : Keyed P k) (ht : P.underlying t = some (.map k e)) (hn : n < maxLen) {key : Value} (hk : (keyOf P k key).isSome = true) (v : Value) :
    ∃ w', (Instr.mapUpdate t (.map (some b)) key v).run P w = .ok () w' ∧ MapOf P k w' b (n + 1) (putO f key v) ∧ w.grownBy w' (some b) := by
  obtain ⟨D, h, hf⟩ := h
  obtain ⟨l, hl⟩ := Option.isSome_iff_exists.1 hk
  obtain ⟨w', h1, h2, h3⟩ := h.update K ht hn hl (val := v) (d := .held v) (ps := []) rfl
  obtain ⟨es, clock, _, _, _, hD⟩ := h
  exact ⟨w', h1, ⟨_, h2, hf.put K ⟨_, hD⟩ hl⟩, h3⟩

/-- a range under way: which keys are still to come -/
def RangeOf (P : Program) (k : TypeId) (w : World) (b r n : Nat) (f : Value → Option Value) (left : Value → Bool) (cnt : Nat) : Prop :=
  ∃ (D : DataW Value) (lf : Lit → Bool), w.ranges P k rHeld b r n D lf cnt ∧ Reads1 P k D f ∧ ∀ key l, keyOf P k key = some l → lf l = left key
theorem RangeOf.map {r cnt : Nat} {left : Value → Bool} (h : RangeOf P k w b r n f left cnt) : MapOf P k w b n f := by obtain ⟨D, lf, h, hf, _⟩ := h; exact ⟨D, h.owns, hf⟩
theorem RangeOf.kept {row : Option Nat} {r cnt : Nat} {left : Value → Bool} (h : RangeOf P k w b r n f left cnt) (hg : w.grownBy w' row) (hb : some b ≠ row) (hr : some r ≠ row) : RangeOf P k w' b r n f left cnt := by
  obtain ⟨D, lf, h, hf, hl⟩ := h; exact ⟨D, lf, h.kept hg hb hr, hf, hl⟩
theorem RangeOf.rlt {r cnt : Nat} {left : Value → Bool} (h : RangeOf P k w b r n f left cnt) : r < w.heap.size := by obtain ⟨D, lf, h, _, _⟩ := h; exact h.lt
theorem MapOf.range {t e : TypeId} (h : MapOf P k w b n f) (K : Keyed P k) (ht : P.underlying t = some (.map k e)) :
    ∃ w' cnt, (Instr.range t (.map (some b))).run P w = .ok (.pointer (some ⟨w.heap.size, 0, none⟩)) w' ∧ RangeOf P k w' b w.heap.size n f (fun key => (f key).isSome) cnt ∧ w.grownBy w' none ∧ w'.heap.size = w.heap.size + 1 := by
  obtain ⟨D, h, hf⟩ := h
  obtain ⟨w', h1, h2, h3, h4⟩ := h.range K ht
  refine ⟨w', _, h1, ⟨D, _, h2, hf, fun key l hl => ?_⟩, h3, h4⟩
  cases hk : f key with
  | some v => simp only [hk, Option.isSome]; exact has_true_of_atKey (y := .held v) (fun z => by rw [hf key l hl z, hk])
  | none => simp only [hk, Option.isSome]; exact has_false_of_atKey (fun z => by rw [hf key l hl z, hk])
theorem RangeOf.next {r cnt : Nat} {left : Value → Bool} (h : RangeOf P k w b r n f left cnt) (K : Keyed P k) (ty : TypeId) :
    ((∀ key, (keyOf P k key).isSome = true → left key = false) ∧ (Instr.next (.pointer (some ⟨r, 0, none⟩)) false ty).run P w = .ok (.tuple #[.bool false]) w) ∨
    ∃ key v w' cnt', (keyOf P k key).isSome = true ∧ left key = true ∧ f key = some v ∧ (Instr.next (.pointer (some ⟨r, 0, none⟩)) false ty).run P w = .ok (.tuple #[.bool true, key, v]) w' ∧
      (∀ left' : Value → Bool, (∀ x, (keyOf P k x).isSome = true → (x = key → left' x = false) ∧ (x ≠ key → left' x = left x)) → RangeOf P k w' b r n f left' cnt') ∧ cnt' < cnt ∧ w.grownBy w' (some r) ∧ w'.heap.size = w.heap.size ∧ (Instr.entry (.pointer (some ⟨r, 0, none⟩))).run P w' = .ok (.tuple #[key, v]) w' := by
  obtain ⟨D, lf, h, hf, hl⟩ := h
  rcases h.next K ty with ⟨_, h2, h3⟩ | ⟨key, v, kl, y, w', cnt', hk, hleft, hy, hat, hrun, hrg, hlt, hg, hs, hen⟩
  · refine Or.inl ⟨fun key hk => ?_, h3⟩
    obtain ⟨l, hkl⟩ := Option.isSome_iff_exists.1 hk
    rw [← hl key l hkl]; exact h2 l
  · have hv := rHeld_inv hy
    subst hv
    refine Or.inr ⟨key, v, w', cnt', by rw [hk]; rfl, by rw [← hl key kl hk]; exact hleft, ?_, hrun, fun left' hleft' => ⟨D, _, hrg, hf, fun x l hx => ?_⟩, hlt, hg, hs, hen⟩
    · have a1 := hf key kl hk (.lit (.int .i64 0))
      rw [hat] at a1
      cases hfk : f key with
      | none => rw [hfk] at a1; simp only at a1; cases a1
      | some u => rw [hfk] at a1; simp only at a1; injection a1 with a1; rw [a1]
    · obtain ⟨q1, q2⟩ := hleft' x (by rw [hx]; rfl)
      by_cases hxk : x = key
      · rw [q1 hxk]
        subst hxk
        rw [hk] at hx; injection hx with hx; subst hx
        simp [WideAt.sameKey_self (K.key hk)]
      · have hll : l ≠ kl := fun e => hxk (K.inj hx (by rw [e]; exact hk))
        rw [q2 hxk, hl x l hx, sameKey_ne hll]; simp
end
theorem keyOf_int {P : Program} {k : TypeId} (hk : P.underlying k = some (.int .i64)) {x : Int} (h : I64 x) : (keyOf P k (.int .i64 x)).isSome = true := by rw [keyOf_int_mk hk h.wf]; rfl
end Go.Proofs.Ytgkkilbeingleaa

/- Abstract memory against the model's memory: when it stands, what keeps it, what changes it. Nothing of the program is named here. -/
namespace Go.Proofs.Ytgkkilbeingleaa
open Go.RowKit

def blkOf : Value → Option Nat
  | .pointer (some a) => some a.block
  | .slice (some a) _ _ => some a.block
  | .map (some g) => some g
  | _ => none
def AO.owned : AO → Bool
  | .frz .. => false
  | .dead => false
  | _ => true
def ObjOk (P : Program) (w : World) (S : Nat → Prop) (σ : Nat → Option Value) (id : Nat) : AO → Prop
  | .box t cs => ∃ g arr, σ id = some (.pointer (some ⟨g, 0, none⟩)) ∧ Blk w g t arr ∧ Rps w S σ cs arr.toList ∧ ∀ u ∈ arr, u.oneCell' = true
  | .row t sz es => ∃ A c, σ id = some (.slice A es.length c) ∧ (∀ e ∈ es, e.length = sz) ∧ es.length ≤ c ∧ c ≤ maxLen ∧ ((A = none ∧ c = 0) ∨
      ∃ g o arr, A = some ⟨g, o, none⟩ ∧ Blk w g t arr ∧ o + c * sz ≤ arr.size ∧ (∀ u ∈ arr, u.oneCell' = true) ∧
        ∀ (i : Nat) (e : List AV) (j : Nat) (a : AV), es[i]? = some e → e[j]? = some a → ∃ v, arr[o + i * sz + j]? = some v ∧ Rp w S σ a v)
  | .frz sz es => ∃ A c, σ id = some (.slice A es.length c) ∧ RpD w S (.dsl sz es) (.slice A es.length c)
  | .map kt n f => ∃ g f', σ id = some (.map (some g)) ∧ MapOf P kt w g n f' ∧ ∀ k, (f k = none ∧ f' k = none) ∨ ∃ a v, f k = some a ∧ f' k = some v ∧ Rp w S σ a v
  | .crow t sz c es => ∃ A N, σ id = some (.slice A N c) ∧ (∀ e ∈ es, e.length = sz) ∧ es.length ≤ c ∧ c ≤ maxLen ∧ ((A = none ∧ c = 0) ∨
      ∃ g o arr, A = some ⟨g, o, none⟩ ∧ Blk w g t arr ∧ o + c * sz ≤ arr.size ∧ (∀ u ∈ arr, u.oneCell' = true) ∧
        ∀ (i : Nat) (e : List AV) (j : Nat) (a : AV), es[i]? = some e → e[j]? = some a → ∃ v, arr[o + i * sz + j]? = some v ∧ Rp w S σ a v)
  | .siter s pos => ∃ g, σ id = some (.pointer (some ⟨g, 0, none⟩)) ∧ w.heap[g]? = some (.stringIter s pos)
  | .dead => (σ id).isSome = true
  | .smap kt n f st c => ∃ g f' es, σ id = some (.map (some g)) ∧ MapOf P kt w g n f' ∧ w.heap[g]? = some (.map es c) ∧ (∀ x ∈ es.toList, st x.key = x.born) ∧ ∀ k, (f k = none ∧ f' k = none) ∨ ∃ a v, f k = some a ∧ f' k = some v ∧ Rp w S σ a v
  | .miter m st c vis => ∃ r g seen, σ id = some (.pointer (some ⟨r, 0, none⟩)) ∧ σ m = some (.map (some g)) ∧ w.heap[r]? = some (.mapIter (some g) c seen c) ∧ seen.toList = vis.map st
theorem MapOf.keep {P : Program} {k : TypeId} {w w' : World} {b n : Nat} {f : Value → Option Value} (h : MapOf P k w b n f) (hb : w'.heap[b]? = w.heap[b]?) : MapOf P k w' b n f := by
  obtain ⟨D, ⟨es, clock, hm, h1, h2, h3⟩, hf⟩ := h
  exact ⟨D, ⟨es, clock, hb.trans hm, h1, h2, h3⟩, hf⟩

section
variable {P : Program} {w w' : World} {S S' : Nat → Prop} {σ σ' : Nat → Option Value} {id : Nat} {o : AO} {H H' : AH}
theorem ObjOk.mono (h : ObjOk P w S σ id o) (hs : ∀ b, S b → S' b) (hw : ∀ b, S b → w'.heap[b]? = w.heap[b]?) (hg : ∀ id u, σ id = some u → σ' id = some u)
    (hb : o.owned = true → ∀ b, (σ id).bind blkOf = some b → w'.heap[b]? = w.heap[b]?) : ObjOk P w' S' σ' id o := by
  cases o with
  | box t cs =>
    obtain ⟨g, arr, h1, h2, h3, h4⟩ := h
    exact ⟨g, arr, hg _ _ h1, (hb rfl g (by rw [h1]; rfl)).trans h2, h3.mono hs hw hg, h4⟩
  | row t sz es =>
    obtain ⟨A, c, h1, h2, h3, h4, h5⟩ := h
    refine ⟨A, c, hg _ _ h1, h2, h3, h4, ?_⟩
    rcases h5 with h5 | ⟨g, o, arr, rfl, k1, k2, k3, k4⟩
    · exact .inl h5
    · refine .inr ⟨g, o, arr, rfl, (hb rfl g (by rw [h1]; rfl)).trans k1, k2, k3, fun i e j a he ha => ?_⟩
      obtain ⟨v, hv, hr⟩ := k4 i e j a he ha
      exact ⟨v, hv, hr.mono hs hw hg⟩
  | crow t sz c es =>
    obtain ⟨A, N, h1, h2, h3, h4, h5⟩ := h
    refine ⟨A, N, hg _ _ h1, h2, h3, h4, ?_⟩
    rcases h5 with h5 | ⟨g, o, arr, rfl, k1, k2, k3, k4⟩
    · exact .inl h5
    · refine .inr ⟨g, o, arr, rfl, (hb rfl g (by rw [h1]; rfl)).trans k1, k2, k3, fun i e j a he ha => ?_⟩
      obtain ⟨v, hv, hr⟩ := k4 i e j a he ha
      exact ⟨v, hv, hr.mono hs hw hg⟩
  | frz sz es =>
    obtain ⟨A, c, h1, h2⟩ := h
    exact ⟨A, c, hg _ _ h1, h2.mono hs hw⟩
  | map kt n f =>
    obtain ⟨g, f', h1, h2, h3⟩ := h
    refine ⟨g, f', hg _ _ h1, h2.keep (hb rfl g (by rw [h1]; rfl)), fun k => ?_⟩
    rcases h3 k with h3 | ⟨a, v, q1, q2, q3⟩
    · exact .inl h3
    · exact .inr ⟨a, v, q1, q2, q3.mono hs hw hg⟩
  | siter s pos =>
    obtain ⟨g, h1, h2⟩ := h
    exact ⟨g, hg _ _ h1, (hb rfl g (by rw [h1]; rfl)).trans h2⟩
  | dead =>
    obtain ⟨u, hu⟩ := Option.isSome_iff_exists.1 h
    show (σ' id).isSome = true
    rw [hg _ _ hu]; rfl
  | smap kt n f st c =>
    obtain ⟨g, f', es, h1, h2, h4, h5, h3⟩ := h
    refine ⟨g, f', es, hg _ _ h1, h2.keep (hb rfl g (by rw [h1]; rfl)), (hb rfl g (by rw [h1]; rfl)).trans h4, h5, fun k => ?_⟩
    rcases h3 k with h3 | ⟨a, v, q1, q2, q3⟩
    · exact .inl h3
    · exact .inr ⟨a, v, q1, q2, q3.mono hs hw hg⟩
  | miter m st c vis =>
    obtain ⟨r, g, seen, h1, h2, h3, h4⟩ := h
    exact ⟨r, g, seen, hg _ _ h1, hg _ _ h2, (hb rfl r (by rw [h1]; rfl)).trans h3, h4⟩
structure Sat (P : Program) (w : World) (S : Nat → Prop) (σ : Nat → Option Value) (H : AH) : Prop where
  sb : ∀ b, S b → b < w.heap.size
  dom : ∀ id u, σ id = some u → id < H.nx
  obj : ∀ id o, H.get id = some o → ObjOk P w S σ id o
  dj : ∀ i j o o' b, H.get i = some o → H.get j = some o' → o.owned = true → o'.owned = true → (σ i).bind blkOf = some b → (σ j).bind blkOf = some b → i = j
  sep : ∀ i o b, H.get i = some o → o.owned = true → (σ i).bind blkOf = some b → ¬ S b
  sl : ∀ i A n c, σ i = some (.slice A n c) → n ≤ c ∧ (0 < c → ∃ g o, A = some ⟨g, o, none⟩) ∧ c ≤ maxLen
def Foot (σ : Nat → Option Value) (H : AH) (b : Nat) : Prop := ∃ id o, H.get id = some o ∧ o.owned = true ∧ (σ id).bind blkOf = some b
structure Ext (w : World) (S : Nat → Prop) (σ : Nat → Option Value) (H : AH) (w' : World) (S' : Nat → Prop) (σ' : Nat → Option Value) (H' : AH) : Prop where
  os : w'.os = w.os
  tape : w'.tape = w.tape
  output : w'.output = w.output
  size : w.heap.size ≤ w'.heap.size
  keep : ∀ b, b < w.heap.size → ¬ Foot σ H b → w'.heap[b]? = w.heap[b]?
  sup : ∀ b, S b → S' b
  sub : ∀ b, S' b → S b ∨ Foot σ H b ∨ w.heap.size ≤ b
  foot : ∀ b, Foot σ' H' b → Foot σ H b ∨ w.heap.size ≤ b
  sig : ∀ id u, σ id = some u → σ' id = some u
theorem Sat.notS (h : Sat P w S σ H) {b : Nat} (hb : S b) : ¬ Foot σ H b := fun ⟨i, o, h1, h2, h3⟩ => h.sep i o b h1 h2 h3 hb
theorem Ext.S_keep (e : Ext w S σ H w' S' σ' H') (h : Sat P w S σ H) : ∀ b, S b → w'.heap[b]? = w.heap[b]? := fun b hb => e.keep b (h.sb b hb) (h.notS hb)
theorem Ext.rp (e : Ext w S σ H w' S' σ' H') (h : Sat P w S σ H) {a : AV} {v : Value} (hr : Rp w S σ a v) : Rp w' S' σ' a v := hr.mono e.sup (e.S_keep h) e.sig
theorem Ext.rps (e : Ext w S σ H w' S' σ' H') (h : Sat P w S σ H) {a : List AV} {v : List Value} (hr : Rps w S σ a v) : Rps w' S' σ' a v := hr.mono e.sup (e.S_keep h) e.sig
theorem Ext.refl (w : World) (S : Nat → Prop) (σ : Nat → Option Value) (H : AH) : Ext w S σ H w S σ H :=
  ⟨rfl, rfl, rfl, Nat.le_refl _, fun _ _ _ => rfl, fun _ h => h, fun _ h => .inl h, fun _ h => .inl h, fun _ _ h => h⟩
theorem Ext.trans {w2 : World} {S2 : Nat → Prop} {σ2 : Nat → Option Value} {H2 : AH} (e : Ext w S σ H w' S' σ' H') (f : Ext w' S' σ' H' w2 S2 σ2 H2) : Ext w S σ H w2 S2 σ2 H2 where
  os := f.os.trans e.os
  tape := f.tape.trans e.tape
  output := f.output.trans e.output
  size := Nat.le_trans e.size f.size
  keep b hb hn := by
    refine (f.keep b (Nat.lt_of_lt_of_le hb e.size) (fun hf => ?_)).trans (e.keep b hb hn)
    rcases e.foot b hf with h | h
    · exact hn h
    · omega
  sup b hb := f.sup b (e.sup b hb)
  sub b hb := by
    rcases f.sub b hb with h | h | h
    · exact e.sub b h
    · exact .inr (e.foot b h)
    · exact .inr (.inr (Nat.le_trans e.size h))
  foot b hb := by
    rcases f.foot b hb with h | h
    · exact e.foot b h
    · exact .inr (Nat.le_trans e.size h)
  sig id u h := f.sig id u (e.sig id u h)
theorem Sat.congr (h : Sat P w S σ H) (hg : ∀ id, H'.get id = H.get id) (hn : H.nx ≤ H'.nx) : Sat P w S σ H' where
  sb := h.sb
  dom id u hu := Nat.lt_of_lt_of_le (h.dom id u hu) hn
  obj id o ho := h.obj id o (by rw [← hg]; exact ho)
  dj i j o o' b h1 h2 := h.dj i j o o' b (by rw [← hg]; exact h1) (by rw [← hg]; exact h2)
  sep i o b h1 := h.sep i o b (by rw [← hg]; exact h1)
  sl := h.sl
/-- some of it is let go -/
theorem Sat.less (h : Sat P w S σ H) (hg : ∀ id o, H'.get id = some o → H.get id = some o) (hn : H.nx ≤ H'.nx) : Sat P w S σ H' where
  sb := h.sb
  dom id u hu := Nat.lt_of_lt_of_le (h.dom id u hu) hn
  obj id o ho := h.obj id o (hg _ _ ho)
  dj i j o o' b h1 h2 := h.dj i j o o' b (hg _ _ h1) (hg _ _ h2)
  sep i o b h1 := h.sep i o b (hg _ _ h1)
  sl := h.sl
theorem Foot.less (hg : ∀ id o, H'.get id = some o → H.get id = some o) {b : Nat} (h : Foot σ H' b) : Foot σ H b := by
  obtain ⟨i, o, h1, h2, h3⟩ := h; exact ⟨i, o, hg _ _ h1, h2, h3⟩
theorem AH.get_put_self {H : AH} {k : Nat} {o : AO} : (H.put k o).get k = some o := lget_lput_self
theorem AH.get_put_ne {H : AH} {k j : Nat} {o : AO} (h : j ≠ k) : (H.put k o).get j = H.get j := lget_lput_ne h
theorem AH.get_del_self {H : AH} {k : Nat} : (H.del k).get k = none := lget_ldel_self
theorem AH.get_del_ne {H : AH} {k j : Nat} (h : j ≠ k) : (H.del k).get j = H.get j := lget_ldel_ne h
theorem AH.get_del {H : AH} {k j : Nat} {o : AO} (h : (H.del k).get j = some o) : H.get j = some o ∧ j ≠ k := by
  by_cases e : j = k
  · subst e; rw [AH.get_del_self] at h; cases h
  · rw [AH.get_del_ne e] at h; exact ⟨h, e⟩
theorem AH.kill_get {H : AH} {k j : Nat} {o : AO} (h : (H.kill k).get j = some o) (ho : o.owned = true) : H.get j = some o ∧ j ≠ k := by
  by_cases e : j = k
  · subst e; unfold AH.kill at h; rw [AH.get_put_self] at h; injection h with h; subst h; cases ho
  · unfold AH.kill at h; rw [AH.get_put_ne e] at h; exact ⟨h, e⟩
theorem Sat.kill (h : Sat P w S σ H) {k : Nat} {o : AO} (hk : H.get k = some o) : Sat P w S σ (H.kill k) where
  sb := h.sb
  dom := h.dom
  obj id o2 ho := by
    by_cases e : id = k
    · subst e
      unfold AH.kill at ho; rw [AH.get_put_self] at ho; injection ho with ho; subst ho
      show (σ id).isSome = true
      have := h.obj id o hk
      cases o with
      | box t cs => obtain ⟨g, arr, h1, _⟩ := this; rw [h1]; rfl
      | row t sz es => obtain ⟨A, c, h1, _⟩ := this; rw [h1]; rfl
      | frz sz es => obtain ⟨A, c, h1, _⟩ := this; rw [h1]; rfl
      | crow t sz c es => obtain ⟨A, N, h1, _⟩ := this; rw [h1]; rfl
      | map kt m f => obtain ⟨g, f', h1, _⟩ := this; rw [h1]; rfl
      | siter s p => obtain ⟨g, h1, _⟩ := this; rw [h1]; rfl
      | dead => exact this
      | smap kt m f st c => obtain ⟨g, f', es, h1, _⟩ := this; rw [h1]; rfl
      | miter m st c vis => obtain ⟨r, g, seen, h1, _⟩ := this; rw [h1]; rfl
    · unfold AH.kill at ho; rw [AH.get_put_ne e] at ho; exact h.obj id o2 ho
  dj i j o o' b h1 h2 k1 k2 := h.dj i j o o' b (AH.kill_get h1 k1).1 (AH.kill_get h2 k2).1 k1 k2
  sep i o b h1 k1 := h.sep i o b (AH.kill_get h1 k1).1 k1
  sl := h.sl
theorem Foot.kill {k b : Nat} (h : Foot σ (H.kill k) b) : Foot σ H b := by
  obtain ⟨i, o, h1, h2, h3⟩ := h; exact ⟨i, o, (AH.kill_get h1 h2).1, h2, h3⟩
def sput (σ : Nat → Option Value) (k : Nat) (u : Value) : Nat → Option Value := fun i => if i = k then some u else σ i
theorem sput_ext {k : Nat} {u : Value} (h : ∀ x, σ k = some x → x = u) : ∀ id x, σ id = some x → sput σ k u id = some x := by
  intro id x hx
  unfold sput
  by_cases e : id = k
  · subst e; rw [if_pos rfl, h x hx]
  · rw [if_neg e]; exact hx
theorem sput_self {k : Nat} {u : Value} : sput σ k u k = some u := by unfold sput; rw [if_pos rfl]
theorem sput_ne {k j : Nat} {u : Value} (h : j ≠ k) : sput σ k u j = σ j := by unfold sput; rw [if_neg h]
/-- one thing is laid, or changed -/
theorem Sat.upd (h : Sat P w S σ H) {k : Nat} {o' : AO} {u : Value} (hk : k < H.nx) (hσ : ∀ x, σ k = some x → x = u)
    (hsz : w.heap.size ≤ w'.heap.size) (hkeep : ∀ b, b < w.heap.size → blkOf u ≠ some b → w'.heap[b]? = w.heap[b]?)
    (hfree : ∀ b, blkOf u = some b → ¬ S b ∧ ∀ j o, j ≠ k → H.get j = some o → o.owned = true → (σ j).bind blkOf ≠ some b)
    (hobj : ObjOk P w' S (sput σ k u) k o') (hlt : ∀ j o b, H.get j = some o → o.owned = true → (σ j).bind blkOf = some b → b < w.heap.size) (hsl : ∀ A n c, u = .slice A n c → n ≤ c ∧ (0 < c → ∃ g o, A = some ⟨g, o, none⟩) ∧ c ≤ maxLen) : Sat P w' S (sput σ k u) (H.put k o') := by
  have hS : ∀ b, S b → w'.heap[b]? = w.heap[b]? := fun b hb => hkeep b (h.sb b hb) (fun e => (hfree b e).1 hb)
  refine ⟨fun b hb => Nat.lt_of_lt_of_le (h.sb b hb) hsz, fun id x hx => ?_, fun id o ho => ?_, fun i j o o2 b h1 h2 k1 k2 q1 q2 => ?_, fun i o b h1 k1 q1 => ?_, fun i A n c hi => ?_⟩
  · by_cases e : id = k
    · subst e; exact hk
    · rw [sput_ne e] at hx; exact h.dom id x hx
  · by_cases e : id = k
    · subst e; rw [AH.get_put_self] at ho; injection ho with ho; subst ho; exact hobj
    · rw [AH.get_put_ne e] at ho
      refine (h.obj id o ho).mono (fun _ hb => hb) hS (sput_ext hσ) (fun how b hb => hkeep b (hlt id o b ho how hb) (fun e2 => ?_))
      exact (hfree b e2).2 id o e ho how hb
  · by_cases e : i = k <;> by_cases e' : j = k
    · rw [e, e']
    · subst e
      rw [sput_self] at q1
      rw [AH.get_put_ne e'] at h2
      rw [sput_ne e'] at q2
      exact absurd q2 ((hfree b q1).2 j o2 e' h2 k2)
    · subst e'
      rw [sput_self] at q2
      rw [AH.get_put_ne e] at h1
      rw [sput_ne e] at q1
      exact absurd q1 ((hfree b q2).2 i o e h1 k1)
    · rw [AH.get_put_ne e] at h1
      rw [AH.get_put_ne e'] at h2
      rw [sput_ne e] at q1
      rw [sput_ne e'] at q2
      exact h.dj i j o o2 b h1 h2 k1 k2 q1 q2
  · by_cases e : i = k
    · subst e
      rw [sput_self] at q1
      exact (hfree b q1).1
    · rw [AH.get_put_ne e] at h1
      rw [sput_ne e] at q1
      exact h.sep i o b h1 k1 q1
  · by_cases e : i = k
    · subst e; rw [sput_self] at hi; injection hi with hi; exact hsl A n c hi
    · rw [sput_ne e] at hi; exact h.sl i A n c hi
theorem heap_lt {w : World} {b : Nat} {o : Obj} (h : w.heap[b]? = some o) : b < w.heap.size := by
  rcases Nat.lt_or_ge b w.heap.size with h1 | h1
  · exact h1
  · rw [Array.getElem?_eq_none h1] at h; cases h
theorem ObjOk.lt (h : ObjOk P w S σ id o) (ho : o.owned = true) {b : Nat} (hb : (σ id).bind blkOf = some b) : b < w.heap.size := by
  cases o with
  | box t cs =>
    obtain ⟨g, arr, h1, h2, _⟩ := h
    rw [h1] at hb; simp [blkOf] at hb; subst hb; exact h2.lt
  | row t sz es =>
    obtain ⟨A, c, h1, h2, h3, h4, h5⟩ := h
    rw [h1] at hb
    rcases h5 with ⟨rfl, _⟩ | ⟨g, o, arr, rfl, k1, _⟩
    · simp [blkOf] at hb
    · simp [blkOf] at hb; subst hb; exact k1.lt
  | frz sz es => cases ho
  | crow t sz c es =>
    obtain ⟨A, N, h1, h2, h3, h4, h5⟩ := h
    rw [h1] at hb
    rcases h5 with ⟨rfl, _⟩ | ⟨g, o, arr, rfl, k1, _⟩
    · simp [blkOf] at hb
    · simp [blkOf] at hb; subst hb; exact k1.lt
  | map kt n f =>
    obtain ⟨g, f', h1, h2, _⟩ := h
    rw [h1] at hb; simp [blkOf] at hb; subst hb; exact h2.lt
  | siter s pos =>
    obtain ⟨g, h1, h2⟩ := h
    rw [h1] at hb; simp [blkOf] at hb; subst hb; exact heap_lt h2
  | dead => cases ho
  | smap kt n f st c =>
    obtain ⟨g, f', es, h1, h2, _⟩ := h
    rw [h1] at hb; simp [blkOf] at hb; subst hb; exact h2.lt
  | miter m st c vis =>
    obtain ⟨r, g, seen, h1, h2, h3, _⟩ := h
    rw [h1] at hb; simp [blkOf] at hb; subst hb; exact heap_lt h3
theorem Sat.lt (h : Sat P w S σ H) {j : Nat} {b : Nat} {o : AO} (h1 : H.get j = some o) (h2 : o.owned = true) (h3 : (σ j).bind blkOf = some b) : b < w.heap.size := (h.obj j o h1).lt h2 h3
theorem Foot.lt (h : Foot σ H id) (hs : Sat P w S σ H) : id < w.heap.size := by obtain ⟨j, o, h1, h2, h3⟩ := h; exact hs.lt h1 h2 h3
/-- the world's memory alone counts -/
theorem Rp.world {w w' : World} {a : AV} {v : Value} (h : Rp w S σ a v) (hw : w'.heap = w.heap) : Rp w' S σ a v := h.mono (fun _ h => h) (fun b _ => by rw [hw]) (fun _ _ h => h)
theorem Sat.world (h : Sat P w S σ H) (hw : w'.heap = w.heap) : Sat P w' S σ H where
  sb b hb := by rw [hw]; exact h.sb b hb
  dom := h.dom
  obj id o ho := (h.obj id o ho).mono (fun _ h => h) (fun b _ => by rw [hw]) (fun _ _ h => h) (fun _ b _ => by rw [hw])
  dj := h.dj
  sep := h.sep
  sl := h.sl
theorem Ext.draw (w : World) (S : Nat → Prop) (σ : Nat → Option Value) (H : AH) (n : Nat) : Ext w S σ H (w.drewN n) S σ H :=
  ⟨rfl, rfl, rfl, Nat.le_refl _, fun _ _ _ => rfl, fun _ h => h, fun _ h => .inl h, fun _ h => .inl h, fun _ _ h => h⟩
/-- one thing is laid, or changed: what is gained -/
theorem Ext.upd (h : Sat P w S σ H) {k : Nat} {o' : AO} {u : Value} (hσ : ∀ x, σ k = some x → x = u) (hos : w'.os = w.os) (htape : w'.tape = w.tape) (hout : w'.output = w.output)
    (hsz : w.heap.size ≤ w'.heap.size) (hkeep : ∀ b, b < w.heap.size → blkOf u ≠ some b → w'.heap[b]? = w.heap[b]?)
    (hb : ∀ b, blkOf u = some b → Foot σ H b ∨ w.heap.size ≤ b) : Ext w S σ H w' S (sput σ k u) (H.put k o') where
  os := hos
  tape := htape
  output := hout
  size := hsz
  keep b hlt hn := hkeep b hlt (fun e => by
    rcases hb b e with h | h
    · exact hn h
    · omega)
  sup _ h := h
  sub _ h := .inl h
  foot b := by
    rintro ⟨i, o, h1, h2, h3⟩
    by_cases e : i = k
    · subst e; rw [sput_self] at h3; exact hb b h3
    · rw [AH.get_put_ne e] at h1; rw [sput_ne e] at h3; exact .inl ⟨i, o, h1, h2, h3⟩
  sig := sput_ext hσ
end
end Go.Proofs.Ytgkkilbeingleaa

/- Operations that touch no memory, on abstract values. Nothing of the program is named here. -/
namespace Go.Proofs.Ytgkkilbeingleaa
open Go.RowKit

inductive PO where
  | mv | pick | nilck | addOff (n : Nat) | idx (sz : Nat) | aidx (len sz : Nat) | fld (off n : Nat) (agg : Bool) | ext (i : Nat)
  | bin (op : BinOp) (t : TypeId) | un (op : UnOp) | conv (k : IntKind) | same | len | slen | slc (sz : Nat) (lo hi : Bool) | ssl (lo hi : Bool) | sidx
  | vidx (len sz : Nat) (agg : Bool) | cap | sld (sz : Nat) | mn | mx | mkfn (f : Fn) (nf : Nat) | bld (z : List AV) (pl : List (Nat × Nat))
def AV.part (a : AV) : Bool := a.one || match a with
  | .agg _ => true
  | _ => false
def AV.cells : AV → List AV
  | .agg cs => cs
  | a => [a]
def vals : List AV → Option (List Value)
  | [] => some []
  | .p v :: r => match vals r with
    | some l => some (v :: l)
    | none => none
  | _ :: _ => none
def AV.val : AV → Option Value
  | .p v => some v
  | .agg cs => match vals cs with
    | some l => some (.agg l.toArray)
    | none => none
  | _ => none
/-- parts laid over cells -/
def fillA : List AV → List (Nat × Nat) → List AV → Option (List AV)
  | cs, [], [] => some cs
  | cs, (off, n) :: pl, a :: ps =>
    match a with
    | .agg ds => if ds.length = n ∧ off + n ≤ cs.length then fillA (cs.take off ++ ds ++ cs.drop (off + n)) pl ps else none
    | a => if n = 1 ∧ off + 1 ≤ cs.length then fillA (cs.set off a) pl ps else none
  | _, _, _ => none
def loV : Bool → Int → Int
  | true, i => i
  | false, _ => 0
inductive PuR (P : Program) : PO → List AV → AV → Prop
  | mv (a : AV) : PuR P .mv [a] a
  | pick (c : Bool) (a b : AV) : PuR P .pick [.p (.bool c), a, b] (if c then a else b)
  | nil_ptr (id off : Nat) : PuR P .nilck [.ptr id off] (.ptr id off)
  | nil_eptr (id sz i j : Nat) : PuR P .nilck [.eptr id sz i j] (.eptr id sz i j)
  | nil_dptr (sz : Nat) (xs : List (List AV)) (i j : Nat) : PuR P .nilck [.dptr sz xs i j] (.dptr sz xs i j)
  | nil_fn (f : Nat) (xs ys : List AV) : PuR P .nilck [.fn (.func f) xs ys] (.fn (.func f) xs ys)
  | add_ptr (n id off : Nat) : PuR P (.addOff n) [.ptr id off] (.ptr id (off + n))
  | add_eptr (n id sz i j : Nat) : PuR P (.addOff n) [.eptr id sz i j] (.eptr id sz i (j + n))
  | add_dptr (n sz : Nat) (xs : List (List AV)) (i j : Nat) : PuR P (.addOff n) [.dptr sz xs i j] (.dptr sz xs i (j + n))
  | idx_dsl (sz : Nat) (xs : List (List AV)) (k : IntKind) (i : Int) : 0 < sz → 0 ≤ i → i < xs.length → PuR P (.idx sz) [.dsl sz xs, .p (.int k i)] (.dptr sz xs i.toNat 0)
  | idx_osl (sz id off n : Nat) (k : IntKind) (i : Int) : 0 ≤ i → i < n → PuR P (.idx sz) [.osl id sz off n, .p (.int k i)] (.eptr id sz (off + i.toNat) 0)
  | aidx_ptr (len sz id off : Nat) (k : IntKind) (i : Int) : 0 ≤ i → i < len → PuR P (.aidx len sz) [.ptr id off, .p (.int k i)] (.ptr id (off + i.toNat * sz))
  | aidx_eptr (len sz id sz' i' j : Nat) (k : IntKind) (i : Int) : 0 ≤ i → i < len → PuR P (.aidx len sz) [.eptr id sz' i' j, .p (.int k i)] (.eptr id sz' i' (j + i.toNat * sz))
  | aidx_dptr (len sz sz' i' j : Nat) (xs : List (List AV)) (k : IntKind) (i : Int) : 0 ≤ i → i < len → PuR P (.aidx len sz) [.dptr sz' xs i' j, .p (.int k i)] (.dptr sz' xs i' (j + i.toNat * sz))
  | fld_agg (off n : Nat) (cs : List AV) : off + n ≤ cs.length → PuR P (.fld off n true) [.agg cs] (.agg ((cs.drop off).take n))
  | fld_one (off n : Nat) (cs : List AV) (a : AV) : cs[off]? = some a → PuR P (.fld off n false) [.agg cs] a
  | ext (i : Nat) (cs : List AV) (a : AV) : cs[i]? = some a → PuR P (.ext i) [.tup cs] a
  | add_i (t : TypeId) (k : IntKind) (x y z : Int) : k.wrap (x + y) = z → PuR P (.bin .add t) [.p (.int k x), .p (.int k y)] (.p (.int k z))
  | sub_i (t : TypeId) (k : IntKind) (x y z : Int) : k.wrap (x - y) = z → PuR P (.bin .sub t) [.p (.int k x), .p (.int k y)] (.p (.int k z))
  | mul_i (t : TypeId) (k : IntKind) (x y z : Int) : k.wrap (x * y) = z → PuR P (.bin .mul t) [.p (.int k x), .p (.int k y)] (.p (.int k z))
  | quo_i (t : TypeId) (k : IntKind) (x y z : Int) : y ≠ 0 → k.wrap (x.tdiv y) = z → PuR P (.bin .quo t) [.p (.int k x), .p (.int k y)] (.p (.int k z))
  | rem_i (t : TypeId) (k : IntKind) (x y z : Int) : y ≠ 0 → x.tmod y = z → PuR P (.bin .rem t) [.p (.int k x), .p (.int k y)] (.p (.int k z))
  | and_i (t : TypeId) (k : IntKind) (x y z : Int) : k.wrap (BitVec.ofInt k.bits x &&& BitVec.ofInt k.bits y).toNat = z → PuR P (.bin .and t) [.p (.int k x), .p (.int k y)] (.p (.int k z))
  | or_i (t : TypeId) (k : IntKind) (x y z : Int) : k.wrap (BitVec.ofInt k.bits x ||| BitVec.ofInt k.bits y).toNat = z → PuR P (.bin .or t) [.p (.int k x), .p (.int k y)] (.p (.int k z))
  | xor_i (t : TypeId) (k : IntKind) (x y z : Int) : k.wrap (BitVec.ofInt k.bits x ^^^ BitVec.ofInt k.bits y).toNat = z → PuR P (.bin .xor t) [.p (.int k x), .p (.int k y)] (.p (.int k z))
  | eql_i (t : TypeId) (k : IntKind) (x y : Int) : PuR P (.bin .eql t) [.p (.int k x), .p (.int k y)] (.p (.bool (decide (x = y))))
  | neq_i (t : TypeId) (k : IntKind) (x y : Int) : PuR P (.bin .neq t) [.p (.int k x), .p (.int k y)] (.p (.bool (decide (x ≠ y))))
  | lss_i (t : TypeId) (k : IntKind) (x y : Int) : PuR P (.bin .lss t) [.p (.int k x), .p (.int k y)] (.p (.bool (decide (x < y))))
  | leq_i (t : TypeId) (k : IntKind) (x y : Int) : PuR P (.bin .leq t) [.p (.int k x), .p (.int k y)] (.p (.bool (decide (x ≤ y))))
  | gtr_i (t : TypeId) (k : IntKind) (x y : Int) : PuR P (.bin .gtr t) [.p (.int k x), .p (.int k y)] (.p (.bool (decide (x > y))))
  | geq_i (t : TypeId) (k : IntKind) (x y : Int) : PuR P (.bin .geq t) [.p (.int k x), .p (.int k y)] (.p (.bool (decide (x ≥ y))))
  | shl_i (t : TypeId) (k k' : IntKind) (x y z : Int) : 0 ≤ y → k.wrap (x * 2 ^ (min y.toNat k.bits)) = z → PuR P (.bin .shl t) [.p (.int k x), .p (.int k' y)] (.p (.int k z))
  | shr_i (t : TypeId) (k k' : IntKind) (x y z : Int) : 0 ≤ y → x.fdiv (2 ^ (min y.toNat k.bits)) = z → PuR P (.bin .shr t) [.p (.int k x), .p (.int k' y)] (.p (.int k z))
  | eql_b (t : TypeId) (x y : Bool) : P.underlying t = some .bool → PuR P (.bin .eql t) [.p (.bool x), .p (.bool y)] (.p (.bool (x == y)))
  | neq_b (t : TypeId) (x y : Bool) : P.underlying t = some .bool → PuR P (.bin .neq t) [.p (.bool x), .p (.bool y)] (.p (.bool (!(x == y))))
  | eql_v (t : TypeId) (a b : AV) (us vs : Array Value) (r : Bool) : a.val = some (.agg us) → b.val = some (.agg vs) → P.eqGuardType P.depth t = false → (∀ w, (Op.equal t (.agg us) (.agg vs)).run P w = .ok r w) → PuR P (.bin .eql t) [a, b] (.p (.bool r))
  | neq_v (t : TypeId) (a b : AV) (us vs : Array Value) (r : Bool) : a.val = some (.agg us) → b.val = some (.agg vs) → P.eqGuardType P.depth t = false → (∀ w, (Op.equal t (.agg us) (.agg vs)).run P w = .ok r w) → PuR P (.bin .neq t) [a, b] (.p (.bool (!r)))
  | eqnil_dsl (t e : TypeId) (sz : Nat) (xs : List (List AV)) : P.underlying t = some (.slice e) → 0 < sz → 0 < xs.length → PuR P (.bin .eql t) [.dsl sz xs, .p (.slice none 0 0)] (.p (.bool false))
  | eqnil_osl (t e : TypeId) (id sz off n : Nat) : P.underlying t = some (.slice e) → 0 < n → PuR P (.bin .eql t) [.osl id sz off n, .p (.slice none 0 0)] (.p (.bool false))
  | eqnil_p (t e : TypeId) (A : Option Addr) (n c : Nat) : P.underlying t = some (.slice e) → PuR P (.bin .eql t) [.p (.slice A n c), .p (.slice none 0 0)] (.p (.bool A.isNone))
  | nenil_dsl (t e : TypeId) (sz : Nat) (xs : List (List AV)) : P.underlying t = some (.slice e) → 0 < sz → 0 < xs.length → PuR P (.bin .neq t) [.dsl sz xs, .p (.slice none 0 0)] (.p (.bool true))
  | nenil_osl (t e : TypeId) (id sz off n : Nat) : P.underlying t = some (.slice e) → 0 < n → PuR P (.bin .neq t) [.osl id sz off n, .p (.slice none 0 0)] (.p (.bool true))
  | nenil_p (t e : TypeId) (A : Option Addr) (n c : Nat) : P.underlying t = some (.slice e) → PuR P (.bin .neq t) [.p (.slice A n c), .p (.slice none 0 0)] (.p (.bool (!A.isNone)))
  | eql_s (t : TypeId) (x y : ByteArray) : PuR P (.bin .eql t) [.p (.string x), .p (.string y)] (.p (.bool (x.toList == y.toList)))
  | neq_s (t : TypeId) (x y : ByteArray) : PuR P (.bin .neq t) [.p (.string x), .p (.string y)] (.p (.bool (!(x.toList == y.toList))))
  | add_s (t : TypeId) (x y : ByteArray) : x.size + y.size ≤ maxLen → PuR P (.bin .add t) [.p (.string x), .p (.string y)] (.p (.string (x ++ y)))
  | lss_s (t : TypeId) (x y : ByteArray) : PuR P (.bin .lss t) [.p (.string x), .p (.string y)] (.p (.bool (Op.bytesLess x.toList y.toList)))
  | neg_i (k : IntKind) (x z : Int) : k.wrap (0 - x) = z → PuR P (.un .neg) [.p (.int k x)] (.p (.int k z))
  | not_b (x : Bool) : PuR P (.un .not) [.p (.bool x)] (.p (.bool (!x)))
  | conv_i (k j : IntKind) (x z : Int) : k.wrap x = z → PuR P (.conv k) [.p (.int j x)] (.p (.int k z))
  | same_s (x : ByteArray) : PuR P .same [.p (.string x)] (.p (.string x))
  | len_dsl (sz : Nat) (xs : List (List AV)) : PuR P .len [.dsl sz xs] (.p (.int .i64 xs.length))
  | len_osl (id sz off n : Nat) : PuR P .len [.osl id sz off n] (.p (.int .i64 n))
  | len_nil (A : Option Addr) (c : Nat) : PuR P .len [.p (.slice A 0 c)] (.p (.int .i64 0))
  | len_s (x : ByteArray) : PuR P .slen [.p (.string x)] (.p (.int .i64 x.size))
  | slc_00 (sz : Nat) (xs : List (List AV)) : PuR P (.slc sz false false) [.dsl sz xs] (.dsl sz xs)
  | slc_10 (sz : Nat) (xs : List (List AV)) (k : IntKind) (lo : Int) : 0 ≤ lo → lo ≤ xs.length → PuR P (.slc sz true false) [.dsl sz xs, .p (.int k lo)] (.dsl sz (xs.drop lo.toNat))
  | slc_01 (sz : Nat) (xs : List (List AV)) (k : IntKind) (hi : Int) : 0 ≤ hi → hi ≤ xs.length → PuR P (.slc sz false true) [.dsl sz xs, .p (.int k hi)] (.dsl sz (xs.take hi.toNat))
  | slc_11 (sz : Nat) (xs : List (List AV)) (k k' : IntKind) (lo hi : Int) : 0 ≤ lo → lo ≤ hi → hi ≤ xs.length → PuR P (.slc sz true true) [.dsl sz xs, .p (.int k lo), .p (.int k' hi)] (.dsl sz ((xs.drop lo.toNat).take (hi.toNat - lo.toNat)))
  | slo_00 (sz id off n : Nat) : PuR P (.slc sz false false) [.osl id sz off n] (.osl id sz off n)
  | slo_10 (sz id off n : Nat) (k : IntKind) (lo : Int) : 0 ≤ lo → lo ≤ n → PuR P (.slc sz true false) [.osl id sz off n, .p (.int k lo)] (.osl id sz (off + lo.toNat) (n - lo.toNat))
  | slo_01 (sz id off n : Nat) (k : IntKind) (hi : Int) : 0 ≤ hi → hi ≤ n → PuR P (.slc sz false true) [.osl id sz off n, .p (.int k hi)] (.osl id sz off hi.toNat)
  | slo_11 (sz id off n : Nat) (k k' : IntKind) (lo hi : Int) : 0 ≤ lo → lo ≤ hi → hi ≤ n → PuR P (.slc sz true true) [.osl id sz off n, .p (.int k lo), .p (.int k' hi)] (.osl id sz (off + lo.toNat) (hi.toNat - lo.toNat))
  | ssl_00 (s : ByteArray) : PuR P (.ssl false false) [.p (.string s)] (.p (.string (s.extract 0 s.size)))
  | ssl_10 (s : ByteArray) (k : IntKind) (lo : Int) : 0 ≤ lo → lo ≤ s.size → PuR P (.ssl true false) [.p (.string s), .p (.int k lo)] (.p (.string (s.extract lo.toNat s.size)))
  | ssl_01 (s : ByteArray) (k : IntKind) (hi : Int) : 0 ≤ hi → hi ≤ s.size → PuR P (.ssl false true) [.p (.string s), .p (.int k hi)] (.p (.string (s.extract 0 hi.toNat)))
  | ssl_11 (s : ByteArray) (k k' : IntKind) (lo hi : Int) : 0 ≤ lo → lo ≤ hi → hi ≤ s.size → PuR P (.ssl true true) [.p (.string s), .p (.int k lo), .p (.int k' hi)] (.p (.string (s.extract lo.toNat hi.toNat)))
  | sidx (s : ByteArray) (k : IntKind) (i : Int) (b : UInt8) : 0 ≤ i → s[i.toNat]? = some b → PuR P .sidx [.p (.string s), .p (.int k i)] (.p (.int .u8 b.toNat))
  | vidx_agg (len sz : Nat) (k : IntKind) (i : Int) (cs : List AV) : 0 ≤ i → i < len → i.toNat * sz + sz ≤ cs.length → PuR P (.vidx len sz true) [.agg cs, .p (.int k i)] (.agg ((cs.drop (i.toNat * sz)).take sz))
  | vidx_one (len sz : Nat) (k : IntKind) (i : Int) (cs : List AV) (a : AV) : 0 ≤ i → i < len → cs[i.toNat * sz]? = some a → PuR P (.vidx len sz false) [.agg cs, .p (.int k i)] a
  | cap_nil (c : Nat) : PuR P .cap [.p (.slice none 0 c)] (.p (.int .i64 c))
  | sld_osl (sz id off n : Nat) : 0 < n → PuR P (.sld sz) [.osl id sz off n] (.eptr id sz off 0)
  | sld_nil (sz c : Nat) : PuR P (.sld sz) [.p (.slice none 0 c)] (.p (.pointer none))
  | slc_nil (sz : Nat) (k : IntKind) : PuR P (.slc sz false true) [.p (.slice none 0 0), .p (.int k 0)] (.p (.slice none 0 0))
  | mn_i (k : IntKind) (x y : Int) : PuR P .mn [.p (.int k x), .p (.int k y)] (.p (.int k (if y < x then y else x)))
  | mx_i (k : IntKind) (x y : Int) : PuR P .mx [.p (.int k x), .p (.int k y)] (.p (.int k (if y > x then y else x)))
  | mkfn (f : Fn) (nf : Nat) (xs : List AV) : nf ≤ xs.length → PuR P (.mkfn f nf) xs (.fn f (xs.take nf) (xs.drop nf))
  | bld (z : List AV) (pl : List (Nat × Nat)) (xs : List AV) (cs : List AV) : xs.all AV.part = true → fillA z pl xs = some cs → PuR P (.bld z pl) xs (.agg cs)

/-- which operation it is; the operands in order -/
def optL : Option Operand → List Operand
  | none => []
  | some x => [x]
def aggB (P : Program) (t : TypeId) : Option Bool :=
  match P.underlying t with
  | some (.struct _) => some true
  | some (.array _ _) => some true
  | some _ => some false
  | none => none
def avOf : Value → AV
  | v => .p v
def zeroA (P : Program) (t : TypeId) : Option (List AV) :=
  match P.info? t with
  | some i => match i.zero with
    | some z => if z.cells.all (·.oneCell') then some (z.cells.toList.map .p) else none
    | none => none
  | none => none
def clsP (P : Program) (o : Op) : Option (PO × List Operand) :=
  match o with
  | .move x | .assign x => some (.mv, [x])
  | .pick c a b => some (.pick, [c, a, b])
  | .nilCheck x => some (.nilck, [x])
  | .fieldAddr t x f => match P.underlying t with
    | some (.struct fields) => match fields[f]? with
      | some fd => match P.info? fd.type with
        | some i => if i.size = 0 then none else some (.addOff fd.offset, [x])
        | none => none
      | none => none
    | _ => none
  | .indexAddr t x i => match P.underlying t with
    | some (.slice e) => (P.info? e).map fun j => (.idx j.size, [x, i])
    | some (.array n e) => (P.info? e).map fun j => (.aidx n j.size, [x, i])
    | _ => none
  | .field t x f => match P.underlying t with
    | some (.struct fields) => match fields[f]? with
      | some fd => match aggB P fd.type, P.info? fd.type with
        | some b, some j => some (.fld fd.offset j.size b, [x])
        | _, _ => none
      | none => none
    | _ => none
  | .extract x i => some (.ext i, [x])
  | .binOp op t x y _ => some (.bin op t, [x, y])
  | .unOp op _ x => some (.un op, [x])
  | .convert s d x => match P.underlying s, P.underlying d with
    | some (.int _), some (.int k) => some (.conv k, [x])
    | some .string, some .string => some (.same, [x])
    | _, _ => none
  | .slice t x lo hi none => match P.underlying t with
    | some (.slice e) => (P.info? e).map fun j => (.slc j.size lo.isSome hi.isSome, x :: optL lo ++ optL hi)
    | some .string => some (.ssl lo.isSome hi.isSome, x :: optL lo ++ optL hi)
    | _ => none
  | .index t x i => match P.underlying t with
    | some .string => some (.sidx, [x, i])
    | some (.array n e) => match aggB P e, P.info? e with
      | some b, some j => some (.vidx n j.size b, [x, i])
      | _, _ => none
    | _ => none
  | .makeFunc f xs ys => some (.mkfn f xs.size, xs.toList ++ ys.toList)
  | .build t parts => match P.underlying t, zeroA P t with
    | some (.struct fields), some z => match fields.toList.mapM (fun f => (P.info? f.type).map fun i => (f.offset, i.size)) with
      | some places => match parts.toList.mapM (fun x => places[x.1]?) with
        | some pl => some (.bld z pl, parts.toList.map (·.2))
        | none => none
      | none => none
    | some (.array _ e), some z => match P.info? e with
      | some j => some (.bld z (parts.toList.map fun x => (x.1 * j.size, j.size)), parts.toList.map (·.2))
      | none => none
    | _, _ => none
  | .call c => match c.callee with
    | .builtin .len => match (c.argTypes[0]?).bind P.underlying with
      | some .string => match c.args.toList with | [x] => some (.slen, [x]) | _ => none
      | some (.slice _) => match c.args.toList with | [x] => some (.len, [x]) | _ => none
      | _ => none
    | .builtin .cap => match (c.argTypes[0]?).bind P.underlying with
      | some (.slice _) => match c.args.toList with | [x] => some (.cap, [x]) | _ => none
      | _ => none
    | .builtin .unsafeSliceData => match (c.argTypes[0]?).bind P.underlying with
      | some (.slice e) => match c.args.toList with | [x] => (P.info? e).map fun j => (.sld j.size, [x]) | _ => none
      | _ => none
    | .builtin .min => match c.args.toList with | [x, y] => some (.mn, [x, y]) | _ => none
    | .builtin .max => match c.args.toList with | [x, y] => some (.mx, [x, y]) | _ => none
    | _ => none
  | _ => none
end Go.Proofs.Ytgkkilbeingleaa
