/- A map of the call's own, as a function from keys to what is there: made, looked up (with ok, too), written, ranged over. Nothing of the program is named here. -/
import Derived.Test.YtcmnjoepadjioaaRd
import Derived.Maps.OwnOps
import Derived.Maps.Views
import Derived.Maps.RangeWalk
import Derived.DeepKeys4
namespace Go.Proofs.Ytcmnjoepadjioaa
open Go.RowKit Go.Maps

def rHeld (v : Value) : Option (DataW Value × List MemPlace) := some (.held v, [])
theorem rHeld_inv {v : Value} {y : DataW Value × List MemPlace} (h : rHeld v = some y) : y = (.held v, []) := by unfold rHeld at h; injection h with h; exact h.symm
/-- a datum reads as a function -/
def Reads1 (P : Program) (k : TypeId) (D : DataW Value) (f : Value → Option Value) : Prop :=
  ∀ (key : Value) (l : Lit), keyOf P k key = some l → ∀ zd, D.atKey l zd = match f key with
    | some v => .held v
    | none => zd
/-- block b is a map of at most n entries; what is there is f's -/
def MapOf (P : Program) (k : TypeId) (w : World) (b n : Nat) (f : Value → Option Value) : Prop :=
  ∃ D : DataW Value, w.ownsMap P k rHeld b n D ∧ Reads1 P k D f
open Classical in
noncomputable def putO (f : Value → Option Value) (key v : Value) : Value → Option Value := fun x => if x = key then some v else f x
theorem putO_same (f : Value → Option Value) (key v : Value) : putO f key v key = some v := by simp [putO]
theorem putO_other (f : Value → Option Value) {key x : Value} (v : Value) (h : x ≠ key) : putO f key v x = f x := by simp [putO, h]
section
variable {P : Program} {k : TypeId} {w w' : World} {b n : Nat} {f : Value → Option Value}
theorem MapOf.made (w : World) (P : Program) (k : TypeId) : MapOf P k (w.alloc (.map #[] 0)) w.heap.size 0 (fun _ => none) :=
  ⟨_, World.ownsMap_made w P k rHeld, fun _ _ _ _ => rfl⟩
theorem MapOf.lt (h : MapOf P k w b n f) : b < w.heap.size := by obtain ⟨D, h, _⟩ := h; exact h.lt
theorem MapOf.mono (h : MapOf P k w b n f) {n' : Nat} (hn : n ≤ n') : MapOf P k w b n' f := by obtain ⟨D, h, hf⟩ := h; exact ⟨D, h.mono hn, hf⟩
theorem MapOf.grown {row : Option Nat} (h : MapOf P k w b n f) (hg : w.grownBy w' row) (hne : some b ≠ row) : MapOf P k w' b n f := by
  obtain ⟨D, h, hf⟩ := h; exact ⟨D, h.kept hg hne, hf⟩
theorem MapOf.alloc (h : MapOf P k w b n f) (o : Obj) : MapOf P k (w.alloc o) b n f := h.grown (World.grownBy_alloc w o none) (by simp)
theorem MapOf.drew (h : MapOf P k w b n f) : MapOf P k w.drew b n f := h
theorem MapOf.drewN (h : MapOf P k w b n f) (m : Nat) : MapOf P k (w.drewN m) b n f := h
theorem MapOf.below {B : Nat} (h : MapOf P k w b n f) (hb : Below B w w') (hlt : b < B) : MapOf P k w' b n f := by
  obtain ⟨D, ⟨es, clock, hm, h1, h2, h3⟩, hf⟩ := h
  exact ⟨D, ⟨es, clock, (hb.block b hlt).trans hm, h1, h2, h3⟩, hf⟩
theorem MapOf.notBlk {t : TypeId} {cs : Array Value} (h : MapOf P k w b n f) {g : Nat} (hb : Blk w g t cs) : b ≠ g := by
  obtain ⟨D, ⟨es, clock, hm, _⟩, _⟩ := h
  intro e; subst e; unfold Blk at hb; rw [hb] at hm; cases hm
theorem MapOf.setFar (h : MapOf P k w b n f) {p : Addr} (hp : b ≠ p.block) (u : Value) : MapOf P k (w.setCell p u) b n f := by
  obtain ⟨D, ⟨es, clock, hm, h1, h2, h3⟩, hf⟩ := h
  exact ⟨D, ⟨es, clock, (Below.heap_setCell w p u b hp).trans hm, h1, h2, h3⟩, hf⟩
theorem MapOf.notOwn {base : Nat} {e : TypeId} {size m : Nat} {v : Value} {xs : List Value} (h : MapOf P k w b n f) (ho : w.ownsRow base e size v m xs) : some b ≠ v.ownBlock := by
  obtain ⟨D, ⟨es, clock, hm, _⟩, _⟩ := h
  rcases ho.2 with ⟨rfl, _⟩ | ⟨g, cap, cur, rfl, _, hh, _⟩
  · simp [Value.ownBlock]
  · intro e; simp [Value.ownBlock] at e; subst e; rw [hm] at hh; cases hh
theorem MapOf.lookAny {t e : TypeId} (c : Bool) (h : MapOf P k w b n f) (K : Keyed P k) (ht : P.underlying t = some (.map k e)) {z : Value} (hz : (zeroValue e).run P w = .ok z w) {key : Value} (hk : (keyOf P k key).isSome = true) :
    (Instr.lookup t (.map (some b)) key c).run P w = .ok (if c then .tuple #[(f key).getD z, .bool (f key).isSome] else (f key).getD z) w := by
  obtain ⟨D, ⟨es, clock, hb, F, hs, rfl⟩, hf⟩ := h
  obtain ⟨l, hl⟩ := Option.isSome_iff_exists.1 hk
  have hfl := hf key l hl
  rcases Maps.fit_look c K ht hz hb F hl with ⟨h1, _, h3⟩ | ⟨e0, y, _, _, h1, h2, h3, _⟩
  · have hn : f key = none := by
      have a1 := hfl (.held z)
      have a2 := hfl (.lit (.int .i64 0))
      rw [h3] at a1 a2
      cases hk : f key with
      | none => rfl
      | some v => rw [hk] at a1 a2; simp only at a1 a2; rw [← a1] at a2; cases a2
    rw [h1, hn]; cases c <;> rfl
  · have hv := rHeld_inv h2
    subst hv
    have hs : f key = some e0.val := by
      cases hk : f key with
      | none =>
        have a1 := hfl (.lit (.int .i64 0))
        rw [h3, hk] at a1; simp only at a1; cases a1
      | some v =>
        have a1 := hfl (.held z)
        rw [h3, hk] at a1; simp only at a1; injection a1 with a1; rw [a1]
    rw [h1, hs]; cases c <;> rfl
theorem MapOf.look {t e : TypeId} (h : MapOf P k w b n f) (K : Keyed P k) (ht : P.underlying t = some (.map k e)) {z : Value} (hz : (zeroValue e).run P w = .ok z w) {key : Value} (hk : (keyOf P k key).isSome = true) :
    (Instr.lookup t (.map (some b)) key false).run P w = .ok ((f key).getD z) w := h.lookAny false K ht hz hk
theorem MapOf.lookOk {t e : TypeId} (h : MapOf P k w b n f) (K : Keyed P k) (ht : P.underlying t = some (.map k e)) {z : Value} (hz : (zeroValue e).run P w = .ok z w) {key : Value} (hk : (keyOf P k key).isSome = true) :
    (Instr.lookup t (.map (some b)) key true).run P w = .ok (.tuple #[(f key).getD z, .bool (f key).isSome]) w := h.lookAny true K ht hz hk
theorem Reads1.put {D : DataW Value} {key v : Value} {l : Lit} (h : Reads1 P k D f) (K : Keyed P k) (hD : IsMap D) (hl : keyOf P k key = some l) : Reads1 P k (D.put l (.held v)) (putO f key v) := by
  intro x l' hl' zd
  by_cases hx : x = key
  · subst hx
    rw [hl] at hl'; injection hl' with hl'; subst hl'
    rw [putO_same, atKey_put_same hD (K.key hl)]
  · have hll : l' ≠ l := fun e => hx (K.inj hl' (by rw [e]; exact hl))
    rw [putO_other _ _ hx, atKey_put_other hll]
    exact h x l' hl' zd
theorem MapOf.store {t e : TypeId} (h : MapOf P k w b n f) (K : Keyed P k) (ht : P.underlying t = some (.map k e)) (hn : n < maxLen) {key : Value} (hk : (keyOf P k key).isSome = true) (v : Value) :
    ∃ w', (Instr.mapUpdate t (.map (some b)) key v).run P w = .ok () w' ∧ MapOf P k w' b (n + 1) (putO f key v) ∧ w.grownBy w' (some b) := by
  obtain ⟨D, h, hf⟩ := h
  obtain ⟨l, hl⟩ := Option.isSome_iff_exists.1 hk
  obtain ⟨w', h1, h2, h3⟩ := h.update K ht hn hl (val := v) (d := .held v) (ps := []) rfl
  obtain ⟨es, clock, _, _, _, hD⟩ := h
  exact ⟨w', h1, ⟨_, h2, hf.put K ⟨_, hD⟩ hl⟩, h3⟩

/-- a range under way: which keys are still to come -/
def RangeOf (P : Program) (k : TypeId) (w : World) (b r n : Nat) (f : Value → Option Value) (left : Value → Bool) (cnt : Nat) : Prop :=
  ∃ (D : DataW Value) (lf : Lit → Bool), w.ranges P k rHeld b r n D lf cnt ∧ Reads1 P k D f ∧ ∀ key l, keyOf P k key = some l → lf l = left key
theorem RangeOf.map {r cnt : Nat} {left : Value → Bool} (h : RangeOf P k w b r n f left cnt) : MapOf P k w b n f := by obtain ⟨D, lf, h, hf, _⟩ := h; exact ⟨D, h.owns, hf⟩
theorem RangeOf.kept {row : Option Nat} {r cnt : Nat} {left : Value → Bool} (h : RangeOf P k w b r n f left cnt) (hg : w.grownBy w' row) (hb : some b ≠ row) (hr : some r ≠ row) : RangeOf P k w' b r n f left cnt := by
  obtain ⟨D, lf, h, hf, hl⟩ := h; exact ⟨D, lf, h.kept hg hb hr, hf, hl⟩
theorem RangeOf.rlt {r cnt : Nat} {left : Value → Bool} (h : RangeOf P k w b r n f left cnt) : r < w.heap.size := by obtain ⟨D, lf, h, _, _⟩ := h; exact h.lt
theorem MapOf.range {t e : TypeId} (h : MapOf P k w b n f) (K : Keyed P k) (ht : P.underlying t = some (.map k e)) :
    ∃ w' cnt, (Instr.range t (.map (some b))).run P w = .ok (.pointer (some ⟨w.heap.size, 0, none⟩)) w' ∧ RangeOf P k w' b w.heap.size n f (fun key => (f key).isSome) cnt ∧ w.grownBy w' none ∧ w'.heap.size = w.heap.size + 1 := by
  obtain ⟨D, h, hf⟩ := h
  obtain ⟨w', h1, h2, h3, h4⟩ := h.range K ht
  refine ⟨w', _, h1, ⟨D, _, h2, hf, fun key l hl => ?_⟩, h3, h4⟩
  cases hk : f key with
  | some v => simp only [hk, Option.isSome]; exact has_true_of_atKey (y := .held v) (fun z => by rw [hf key l hl z, hk])
  | none => simp only [hk, Option.isSome]; exact has_false_of_atKey (fun z => by rw [hf key l hl z, hk])
theorem RangeOf.next {r cnt : Nat} {left : Value → Bool} (h : RangeOf P k w b r n f left cnt) (K : Keyed P k) (ty : TypeId) :
    ((∀ key, (keyOf P k key).isSome = true → left key = false) ∧ (Instr.next (.pointer (some ⟨r, 0, none⟩)) false ty).run P w = .ok (.tuple #[.bool false]) w) ∨
    ∃ key v w' cnt', (keyOf P k key).isSome = true ∧ left key = true ∧ f key = some v ∧ (Instr.next (.pointer (some ⟨r, 0, none⟩)) false ty).run P w = .ok (.tuple #[.bool true, key, v]) w' ∧
      (∀ left' : Value → Bool, (∀ x, (keyOf P k x).isSome = true → (x = key → left' x = false) ∧ (x ≠ key → left' x = left x)) → RangeOf P k w' b r n f left' cnt') ∧ cnt' < cnt ∧ w.grownBy w' (some r) ∧ w'.heap.size = w.heap.size ∧ (Instr.entry (.pointer (some ⟨r, 0, none⟩))).run P w' = .ok (.tuple #[key, v]) w' := by
  obtain ⟨D, lf, h, hf, hl⟩ := h
  rcases h.next K ty with ⟨_, h2, h3⟩ | ⟨key, v, kl, y, w', cnt', hk, hleft, hy, hat, hrun, hrg, hlt, hg, hs, hen⟩
  · refine Or.inl ⟨fun key hk => ?_, h3⟩
    obtain ⟨l, hkl⟩ := Option.isSome_iff_exists.1 hk
    rw [← hl key l hkl]; exact h2 l
  · have hv := rHeld_inv hy
    subst hv
    refine Or.inr ⟨key, v, w', cnt', by rw [hk]; rfl, by rw [← hl key kl hk]; exact hleft, ?_, hrun, fun left' hleft' => ⟨D, _, hrg, hf, fun x l hx => ?_⟩, hlt, hg, hs, hen⟩
    · have a1 := hf key kl hk (.lit (.int .i64 0))
      rw [hat] at a1
      cases hfk : f key with
      | none => rw [hfk] at a1; simp only at a1; cases a1
      | some u => rw [hfk] at a1; simp only at a1; injection a1 with a1; rw [a1]
    · obtain ⟨q1, q2⟩ := hleft' x (by rw [hx]; rfl)
      by_cases hxk : x = key
      · rw [q1 hxk]
        subst hxk
        rw [hk] at hx; injection hx with hx; subst hx
        simp [WideAt.sameKey_self (K.key hk)]
      · have hll : l ≠ kl := fun e => hxk (K.inj hx (by rw [e]; exact hk))
        rw [q2 hxk, hl x l hx, sameKey_ne hll]; simp
end
theorem keyOf_int {P : Program} {k : TypeId} (hk : P.underlying k = some (.int .i64)) {x : Int} (h : I64 x) : (keyOf P k (.int .i64 x)).isSome = true := by rw [keyOf_int_mk hk h.wf]; rfl
end Go.Proofs.Ytcmnjoepadjioaa
