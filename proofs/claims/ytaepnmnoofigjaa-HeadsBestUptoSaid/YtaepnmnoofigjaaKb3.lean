/- Texts that the proof rests on, part 3: what each holds stands at its head. -/
import Derived.Test.YtaepnmnoofigjaaKb2
import Derived.ChangeKeysEq

/- Abstract memory against the model's memory: when it stands, what keeps it, what changes it. Nothing of the program is named here. -/
namespace Go.Proofs.Ytaepnmnoofigjaa
open Go.RowKit

def blkOf : Value → Option Nat
  | .pointer (some a) => some a.block
  | .slice (some a) _ _ => some a.block
  | .map (some g) => some g
  | _ => none
def AO.owned : AO → Bool
  | .frz .. => false
  | .dead => false
  | _ => true
def ObjOk (P : Program) (w : World) (S : Nat → Prop) (σ : Nat → Option Value) (id : Nat) : AO → Prop
  | .box t cs => ∃ g arr, σ id = some (.pointer (some ⟨g, 0, none⟩)) ∧ Blk w g t arr ∧ Rps w S σ cs arr.toList ∧ ∀ u ∈ arr, u.oneCell' = true
  | .row t sz es => ∃ A c, σ id = some (.slice A es.length c) ∧ (∀ e ∈ es, e.length = sz) ∧ es.length ≤ c ∧ c ≤ maxLen ∧ ((A = none ∧ c = 0) ∨
      ∃ g o arr, A = some ⟨g, o, none⟩ ∧ Blk w g t arr ∧ o + c * sz ≤ arr.size ∧ (∀ u ∈ arr, u.oneCell' = true) ∧
        ∀ (i : Nat) (e : List AV) (j : Nat) (a : AV), es[i]? = some e → e[j]? = some a → ∃ v, arr[o + i * sz + j]? = some v ∧ Rp w S σ a v)
  | .frz sz es => ∃ A c, σ id = some (.slice A es.length c) ∧ RpD w S (.dsl sz es) (.slice A es.length c)
  | .map kt n f => ∃ g f', σ id = some (.map (some g)) ∧ MapOf P kt w g n f' ∧ ∀ k, (f k = none ∧ f' k = none) ∨ ∃ a v, f k = some a ∧ f' k = some v ∧ Rp w S σ a v
  | .crow t sz c es => ∃ A N, σ id = some (.slice A N c) ∧ (∀ e ∈ es, e.length = sz) ∧ es.length ≤ c ∧ c ≤ maxLen ∧ ((A = none ∧ c = 0) ∨
      ∃ g o arr, A = some ⟨g, o, none⟩ ∧ Blk w g t arr ∧ o + c * sz ≤ arr.size ∧ (∀ u ∈ arr, u.oneCell' = true) ∧
        ∀ (i : Nat) (e : List AV) (j : Nat) (a : AV), es[i]? = some e → e[j]? = some a → ∃ v, arr[o + i * sz + j]? = some v ∧ Rp w S σ a v)
  | .siter s pos => ∃ g, σ id = some (.pointer (some ⟨g, 0, none⟩)) ∧ w.heap[g]? = some (.stringIter s pos)
  | .dead => (σ id).isSome = true
theorem MapOf.keep {P : Program} {k : TypeId} {w w' : World} {b n : Nat} {f : Value → Option Value} (h : MapOf P k w b n f) (hb : w'.heap[b]? = w.heap[b]?) : MapOf P k w' b n f := by
  obtain ⟨D, ⟨es, clock, hm, h1, h2, h3⟩, hf⟩ := h
  exact ⟨D, ⟨es, clock, hb.trans hm, h1, h2, h3⟩, hf⟩

section
variable {P : Program} {w w' : World} {S S' : Nat → Prop} {σ σ' : Nat → Option Value} {id : Nat} {o : AO} {H H' : AH}
theorem ObjOk.mono (h : ObjOk P w S σ id o) (hs : ∀ b, S b → S' b) (hw : ∀ b, S b → w'.heap[b]? = w.heap[b]?) (hg : ∀ id u, σ id = some u → σ' id = some u)
    (hb : o.owned = true → ∀ b, (σ id).bind blkOf = some b → w'.heap[b]? = w.heap[b]?) : ObjOk P w' S' σ' id o := by
  cases o with
  | box t cs =>
    obtain ⟨g, arr, h1, h2, h3, h4⟩ := h
    exact ⟨g, arr, hg _ _ h1, (hb rfl g (by rw [h1]; rfl)).trans h2, h3.mono hs hw hg, h4⟩
  | row t sz es =>
    obtain ⟨A, c, h1, h2, h3, h4, h5⟩ := h
    refine ⟨A, c, hg _ _ h1, h2, h3, h4, ?_⟩
    rcases h5 with h5 | ⟨g, o, arr, rfl, k1, k2, k3, k4⟩
    · exact .inl h5
    · refine .inr ⟨g, o, arr, rfl, (hb rfl g (by rw [h1]; rfl)).trans k1, k2, k3, fun i e j a he ha => ?_⟩
      obtain ⟨v, hv, hr⟩ := k4 i e j a he ha
      exact ⟨v, hv, hr.mono hs hw hg⟩
  | crow t sz c es =>
    obtain ⟨A, N, h1, h2, h3, h4, h5⟩ := h
    refine ⟨A, N, hg _ _ h1, h2, h3, h4, ?_⟩
    rcases h5 with h5 | ⟨g, o, arr, rfl, k1, k2, k3, k4⟩
    · exact .inl h5
    · refine .inr ⟨g, o, arr, rfl, (hb rfl g (by rw [h1]; rfl)).trans k1, k2, k3, fun i e j a he ha => ?_⟩
      obtain ⟨v, hv, hr⟩ := k4 i e j a he ha
      exact ⟨v, hv, hr.mono hs hw hg⟩
  | frz sz es =>
    obtain ⟨A, c, h1, h2⟩ := h
    exact ⟨A, c, hg _ _ h1, h2.mono hs hw⟩
  | map kt n f =>
    obtain ⟨g, f', h1, h2, h3⟩ := h
    refine ⟨g, f', hg _ _ h1, h2.keep (hb rfl g (by rw [h1]; rfl)), fun k => ?_⟩
    rcases h3 k with h3 | ⟨a, v, q1, q2, q3⟩
    · exact .inl h3
    · exact .inr ⟨a, v, q1, q2, q3.mono hs hw hg⟩
  | siter s pos =>
    obtain ⟨g, h1, h2⟩ := h
    exact ⟨g, hg _ _ h1, (hb rfl g (by rw [h1]; rfl)).trans h2⟩
  | dead =>
    obtain ⟨u, hu⟩ := Option.isSome_iff_exists.1 h
    show (σ' id).isSome = true
    rw [hg _ _ hu]; rfl
structure Sat (P : Program) (w : World) (S : Nat → Prop) (σ : Nat → Option Value) (H : AH) : Prop where
  sb : ∀ b, S b → b < w.heap.size
  dom : ∀ id u, σ id = some u → id < H.nx
  obj : ∀ id o, H.get id = some o → ObjOk P w S σ id o
  dj : ∀ i j o o' b, H.get i = some o → H.get j = some o' → o.owned = true → o'.owned = true → (σ i).bind blkOf = some b → (σ j).bind blkOf = some b → i = j
  sep : ∀ i o b, H.get i = some o → o.owned = true → (σ i).bind blkOf = some b → ¬ S b
  sl : ∀ i A n c, σ i = some (.slice A n c) → n ≤ c ∧ (0 < c → ∃ g o, A = some ⟨g, o, none⟩) ∧ c ≤ maxLen
def Foot (σ : Nat → Option Value) (H : AH) (b : Nat) : Prop := ∃ id o, H.get id = some o ∧ o.owned = true ∧ (σ id).bind blkOf = some b
structure Ext (w : World) (S : Nat → Prop) (σ : Nat → Option Value) (H : AH) (w' : World) (S' : Nat → Prop) (σ' : Nat → Option Value) (H' : AH) : Prop where
  os : w'.os = w.os
  tape : w'.tape = w.tape
  output : w'.output = w.output
  size : w.heap.size ≤ w'.heap.size
  keep : ∀ b, b < w.heap.size → ¬ Foot σ H b → w'.heap[b]? = w.heap[b]?
  sup : ∀ b, S b → S' b
  sub : ∀ b, S' b → S b ∨ Foot σ H b ∨ w.heap.size ≤ b
  foot : ∀ b, Foot σ' H' b → Foot σ H b ∨ w.heap.size ≤ b
  sig : ∀ id u, σ id = some u → σ' id = some u
theorem Sat.notS (h : Sat P w S σ H) {b : Nat} (hb : S b) : ¬ Foot σ H b := fun ⟨i, o, h1, h2, h3⟩ => h.sep i o b h1 h2 h3 hb
theorem Ext.S_keep (e : Ext w S σ H w' S' σ' H') (h : Sat P w S σ H) : ∀ b, S b → w'.heap[b]? = w.heap[b]? := fun b hb => e.keep b (h.sb b hb) (h.notS hb)
theorem Ext.rp (e : Ext w S σ H w' S' σ' H') (h : Sat P w S σ H) {a : AV} {v : Value} (hr : Rp w S σ a v) : Rp w' S' σ' a v := hr.mono e.sup (e.S_keep h) e.sig
theorem Ext.rps (e : Ext w S σ H w' S' σ' H') (h : Sat P w S σ H) {a : List AV} {v : List Value} (hr : Rps w S σ a v) : Rps w' S' σ' a v := hr.mono e.sup (e.S_keep h) e.sig
theorem Ext.refl (w : World) (S : Nat → Prop) (σ : Nat → Option Value) (H : AH) : Ext w S σ H w S σ H :=
  ⟨rfl, rfl, rfl, Nat.le_refl _, fun _ _ _ => rfl, fun _ h => h, fun _ h => .inl h, fun _ h => .inl h, fun _ _ h => h⟩
theorem Ext.trans {w2 : World} {S2 : Nat → Prop} {σ2 : Nat → Option Value} {H2 : AH} (e : Ext w S σ H w' S' σ' H') (f : Ext w' S' σ' H' w2 S2 σ2 H2) : Ext w S σ H w2 S2 σ2 H2 where
  os := f.os.trans e.os
  tape := f.tape.trans e.tape
  output := f.output.trans e.output
  size := Nat.le_trans e.size f.size
  keep b hb hn := by
    refine (f.keep b (Nat.lt_of_lt_of_le hb e.size) (fun hf => ?_)).trans (e.keep b hb hn)
    rcases e.foot b hf with h | h
    · exact hn h
    · omega
  sup b hb := f.sup b (e.sup b hb)
  sub b hb := by
    rcases f.sub b hb with h | h | h
    · exact e.sub b h
    · exact .inr (e.foot b h)
    · exact .inr (.inr (Nat.le_trans e.size h))
  foot b hb := by
    rcases f.foot b hb with h | h
    · exact e.foot b h
    · exact .inr (Nat.le_trans e.size h)
  sig id u h := f.sig id u (e.sig id u h)
theorem Sat.congr (h : Sat P w S σ H) (hg : ∀ id, H'.get id = H.get id) (hn : H.nx ≤ H'.nx) : Sat P w S σ H' where
  sb := h.sb
  dom id u hu := Nat.lt_of_lt_of_le (h.dom id u hu) hn
  obj id o ho := h.obj id o (by rw [← hg]; exact ho)
  dj i j o o' b h1 h2 := h.dj i j o o' b (by rw [← hg]; exact h1) (by rw [← hg]; exact h2)
  sep i o b h1 := h.sep i o b (by rw [← hg]; exact h1)
  sl := h.sl
/-- some of it is let go -/
theorem Sat.less (h : Sat P w S σ H) (hg : ∀ id o, H'.get id = some o → H.get id = some o) (hn : H.nx ≤ H'.nx) : Sat P w S σ H' where
  sb := h.sb
  dom id u hu := Nat.lt_of_lt_of_le (h.dom id u hu) hn
  obj id o ho := h.obj id o (hg _ _ ho)
  dj i j o o' b h1 h2 := h.dj i j o o' b (hg _ _ h1) (hg _ _ h2)
  sep i o b h1 := h.sep i o b (hg _ _ h1)
  sl := h.sl
theorem Foot.less (hg : ∀ id o, H'.get id = some o → H.get id = some o) {b : Nat} (h : Foot σ H' b) : Foot σ H b := by
  obtain ⟨i, o, h1, h2, h3⟩ := h; exact ⟨i, o, hg _ _ h1, h2, h3⟩
theorem AH.get_put_self {H : AH} {k : Nat} {o : AO} : (H.put k o).get k = some o := lget_lput_self
theorem AH.get_put_ne {H : AH} {k j : Nat} {o : AO} (h : j ≠ k) : (H.put k o).get j = H.get j := lget_lput_ne h
theorem AH.get_del_self {H : AH} {k : Nat} : (H.del k).get k = none := lget_ldel_self
theorem AH.get_del_ne {H : AH} {k j : Nat} (h : j ≠ k) : (H.del k).get j = H.get j := lget_ldel_ne h
theorem AH.get_del {H : AH} {k j : Nat} {o : AO} (h : (H.del k).get j = some o) : H.get j = some o ∧ j ≠ k := by
  by_cases e : j = k
  · subst e; rw [AH.get_del_self] at h; cases h
  · rw [AH.get_del_ne e] at h; exact ⟨h, e⟩
theorem AH.kill_get {H : AH} {k j : Nat} {o : AO} (h : (H.kill k).get j = some o) (ho : o.owned = true) : H.get j = some o ∧ j ≠ k := by
  by_cases e : j = k
  · subst e; unfold AH.kill at h; rw [AH.get_put_self] at h; injection h with h; subst h; cases ho
  · unfold AH.kill at h; rw [AH.get_put_ne e] at h; exact ⟨h, e⟩
theorem Sat.kill (h : Sat P w S σ H) {k : Nat} {o : AO} (hk : H.get k = some o) : Sat P w S σ (H.kill k) where
  sb := h.sb
  dom := h.dom
  obj id o2 ho := by
    by_cases e : id = k
    · subst e
      unfold AH.kill at ho; rw [AH.get_put_self] at ho; injection ho with ho; subst ho
      show (σ id).isSome = true
      have := h.obj id o hk
      cases o with
      | box t cs => obtain ⟨g, arr, h1, _⟩ := this; rw [h1]; rfl
      | row t sz es => obtain ⟨A, c, h1, _⟩ := this; rw [h1]; rfl
      | frz sz es => obtain ⟨A, c, h1, _⟩ := this; rw [h1]; rfl
      | crow t sz c es => obtain ⟨A, N, h1, _⟩ := this; rw [h1]; rfl
      | map kt m f => obtain ⟨g, f', h1, _⟩ := this; rw [h1]; rfl
      | siter s p => obtain ⟨g, h1, _⟩ := this; rw [h1]; rfl
      | dead => exact this
    · unfold AH.kill at ho; rw [AH.get_put_ne e] at ho; exact h.obj id o2 ho
  dj i j o o' b h1 h2 k1 k2 := h.dj i j o o' b (AH.kill_get h1 k1).1 (AH.kill_get h2 k2).1 k1 k2
  sep i o b h1 k1 := h.sep i o b (AH.kill_get h1 k1).1 k1
  sl := h.sl
theorem Foot.kill {k b : Nat} (h : Foot σ (H.kill k) b) : Foot σ H b := by
  obtain ⟨i, o, h1, h2, h3⟩ := h; exact ⟨i, o, (AH.kill_get h1 h2).1, h2, h3⟩
def sput (σ : Nat → Option Value) (k : Nat) (u : Value) : Nat → Option Value := fun i => if i = k then some u else σ i
theorem sput_ext {k : Nat} {u : Value} (h : ∀ x, σ k = some x → x = u) : ∀ id x, σ id = some x → sput σ k u id = some x := by
  intro id x hx
  unfold sput
  by_cases e : id = k
  · subst e; rw [if_pos rfl, h x hx]
  · rw [if_neg e]; exact hx
theorem sput_self {k : Nat} {u : Value} : sput σ k u k = some u := by unfold sput; rw [if_pos rfl]
theorem sput_ne {k j : Nat} {u : Value} (h : j ≠ k) : sput σ k u j = σ j := by unfold sput; rw [if_neg h]
/-- one thing is laid, or changed -/
theorem Sat.upd (h : Sat P w S σ H) {k : Nat} {o' : AO} {u : Value} (hk : k < H.nx) (hσ : ∀ x, σ k = some x → x = u)
    (hsz : w.heap.size ≤ w'.heap.size) (hkeep : ∀ b, b < w.heap.size → blkOf u ≠ some b → w'.heap[b]? = w.heap[b]?)
    (hfree : ∀ b, blkOf u = some b → ¬ S b ∧ ∀ j o, j ≠ k → H.get j = some o → o.owned = true → (σ j).bind blkOf ≠ some b)
    (hobj : ObjOk P w' S (sput σ k u) k o') (hlt : ∀ j o b, H.get j = some o → o.owned = true → (σ j).bind blkOf = some b → b < w.heap.size) (hsl : ∀ A n c, u = .slice A n c → n ≤ c ∧ (0 < c → ∃ g o, A = some ⟨g, o, none⟩) ∧ c ≤ maxLen) : Sat P w' S (sput σ k u) (H.put k o') := by
  have hS : ∀ b, S b → w'.heap[b]? = w.heap[b]? := fun b hb => hkeep b (h.sb b hb) (fun e => (hfree b e).1 hb)
  refine ⟨fun b hb => Nat.lt_of_lt_of_le (h.sb b hb) hsz, fun id x hx => ?_, fun id o ho => ?_, fun i j o o2 b h1 h2 k1 k2 q1 q2 => ?_, fun i o b h1 k1 q1 => ?_, fun i A n c hi => ?_⟩
  · by_cases e : id = k
    · subst e; exact hk
    · rw [sput_ne e] at hx; exact h.dom id x hx
  · by_cases e : id = k
    · subst e; rw [AH.get_put_self] at ho; injection ho with ho; subst ho; exact hobj
    · rw [AH.get_put_ne e] at ho
      refine (h.obj id o ho).mono (fun _ hb => hb) hS (sput_ext hσ) (fun how b hb => hkeep b (hlt id o b ho how hb) (fun e2 => ?_))
      exact (hfree b e2).2 id o e ho how hb
  · by_cases e : i = k <;> by_cases e' : j = k
    · rw [e, e']
    · subst e
      rw [sput_self] at q1
      rw [AH.get_put_ne e'] at h2
      rw [sput_ne e'] at q2
      exact absurd q2 ((hfree b q1).2 j o2 e' h2 k2)
    · subst e'
      rw [sput_self] at q2
      rw [AH.get_put_ne e] at h1
      rw [sput_ne e] at q1
      exact absurd q1 ((hfree b q2).2 i o e h1 k1)
    · rw [AH.get_put_ne e] at h1
      rw [AH.get_put_ne e'] at h2
      rw [sput_ne e] at q1
      rw [sput_ne e'] at q2
      exact h.dj i j o o2 b h1 h2 k1 k2 q1 q2
  · by_cases e : i = k
    · subst e
      rw [sput_self] at q1
      exact (hfree b q1).1
    · rw [AH.get_put_ne e] at h1
      rw [sput_ne e] at q1
      exact h.sep i o b h1 k1 q1
  · by_cases e : i = k
    · subst e; rw [sput_self] at hi; injection hi with hi; exact hsl A n c hi
    · rw [sput_ne e] at hi; exact h.sl i A n c hi
theorem heap_lt {w : World} {b : Nat} {o : Obj} (h : w.heap[b]? = some o) : b < w.heap.size := by
  rcases Nat.lt_or_ge b w.heap.size with h1 | h1
  · exact h1
  · rw [Array.getElem?_eq_none h1] at h; cases h
theorem ObjOk.lt (h : ObjOk P w S σ id o) (ho : o.owned = true) {b : Nat} (hb : (σ id).bind blkOf = some b) : b < w.heap.size := by
  cases o with
  | box t cs =>
    obtain ⟨g, arr, h1, h2, _⟩ := h
    rw [h1] at hb; simp [blkOf] at hb; subst hb; exact h2.lt
  | row t sz es =>
    obtain ⟨A, c, h1, h2, h3, h4, h5⟩ := h
    rw [h1] at hb
    rcases h5 with ⟨rfl, _⟩ | ⟨g, o, arr, rfl, k1, _⟩
    · simp [blkOf] at hb
    · simp [blkOf] at hb; subst hb; exact k1.lt
  | frz sz es => cases ho
  | crow t sz c es =>
    obtain ⟨A, N, h1, h2, h3, h4, h5⟩ := h
    rw [h1] at hb
    rcases h5 with ⟨rfl, _⟩ | ⟨g, o, arr, rfl, k1, _⟩
    · simp [blkOf] at hb
    · simp [blkOf] at hb; subst hb; exact k1.lt
  | map kt n f =>
    obtain ⟨g, f', h1, h2, _⟩ := h
    rw [h1] at hb; simp [blkOf] at hb; subst hb; exact h2.lt
  | siter s pos =>
    obtain ⟨g, h1, h2⟩ := h
    rw [h1] at hb; simp [blkOf] at hb; subst hb; exact heap_lt h2
  | dead => cases ho
theorem Sat.lt (h : Sat P w S σ H) {j : Nat} {b : Nat} {o : AO} (h1 : H.get j = some o) (h2 : o.owned = true) (h3 : (σ j).bind blkOf = some b) : b < w.heap.size := (h.obj j o h1).lt h2 h3
theorem Foot.lt (h : Foot σ H id) (hs : Sat P w S σ H) : id < w.heap.size := by obtain ⟨j, o, h1, h2, h3⟩ := h; exact hs.lt h1 h2 h3
/-- the world's memory alone counts -/
theorem Rp.world {w w' : World} {a : AV} {v : Value} (h : Rp w S σ a v) (hw : w'.heap = w.heap) : Rp w' S σ a v := h.mono (fun _ h => h) (fun b _ => by rw [hw]) (fun _ _ h => h)
theorem Sat.world (h : Sat P w S σ H) (hw : w'.heap = w.heap) : Sat P w' S σ H where
  sb b hb := by rw [hw]; exact h.sb b hb
  dom := h.dom
  obj id o ho := (h.obj id o ho).mono (fun _ h => h) (fun b _ => by rw [hw]) (fun _ _ h => h) (fun _ b _ => by rw [hw])
  dj := h.dj
  sep := h.sep
  sl := h.sl
theorem Ext.draw (w : World) (S : Nat → Prop) (σ : Nat → Option Value) (H : AH) (n : Nat) : Ext w S σ H (w.drewN n) S σ H :=
  ⟨rfl, rfl, rfl, Nat.le_refl _, fun _ _ _ => rfl, fun _ h => h, fun _ h => .inl h, fun _ h => .inl h, fun _ _ h => h⟩
/-- one thing is laid, or changed: what is gained -/
theorem Ext.upd (h : Sat P w S σ H) {k : Nat} {o' : AO} {u : Value} (hσ : ∀ x, σ k = some x → x = u) (hos : w'.os = w.os) (htape : w'.tape = w.tape) (hout : w'.output = w.output)
    (hsz : w.heap.size ≤ w'.heap.size) (hkeep : ∀ b, b < w.heap.size → blkOf u ≠ some b → w'.heap[b]? = w.heap[b]?)
    (hb : ∀ b, blkOf u = some b → Foot σ H b ∨ w.heap.size ≤ b) : Ext w S σ H w' S (sput σ k u) (H.put k o') where
  os := hos
  tape := htape
  output := hout
  size := hsz
  keep b hlt hn := hkeep b hlt (fun e => by
    rcases hb b e with h | h
    · exact hn h
    · omega)
  sup _ h := h
  sub _ h := .inl h
  foot b := by
    rintro ⟨i, o, h1, h2, h3⟩
    by_cases e : i = k
    · subst e; rw [sput_self] at h3; exact hb b h3
    · rw [AH.get_put_ne e] at h1; rw [sput_ne e] at h3; exact .inl ⟨i, o, h1, h2, h3⟩
  sig := sput_ext hσ
end
end Go.Proofs.Ytaepnmnoofigjaa

/- Operations that touch no memory, on abstract values. Nothing of the program is named here. -/
namespace Go.Proofs.Ytaepnmnoofigjaa
open Go.RowKit

inductive PO where
  | mv | pick | nilck | addOff (n : Nat) | idx (sz : Nat) | aidx (len sz : Nat) | fld (off n : Nat) (agg : Bool) | ext (i : Nat)
  | bin (op : BinOp) (t : TypeId) | un (op : UnOp) | conv (k : IntKind) | same | len | slen | slc (sz : Nat) (lo hi : Bool) | ssl (lo hi : Bool) | sidx
  | vidx (len sz : Nat) (agg : Bool) | cap | mn | mx | mkfn (f : Fn) (nf : Nat) | bld (z : List AV) (pl : List (Nat × Nat))
def AV.part (a : AV) : Bool := a.one || match a with
  | .agg _ => true
  | _ => false
def AV.cells : AV → List AV
  | .agg cs => cs
  | a => [a]
def vals : List AV → Option (List Value)
  | [] => some []
  | .p v :: r => match vals r with
    | some l => some (v :: l)
    | none => none
  | _ :: _ => none
def AV.val : AV → Option Value
  | .p v => some v
  | .agg cs => match vals cs with
    | some l => some (.agg l.toArray)
    | none => none
  | _ => none
/-- parts laid over cells -/
def fillA : List AV → List (Nat × Nat) → List AV → Option (List AV)
  | cs, [], [] => some cs
  | cs, (off, n) :: pl, a :: ps =>
    match a with
    | .agg ds => if ds.length = n ∧ off + n ≤ cs.length then fillA (cs.take off ++ ds ++ cs.drop (off + n)) pl ps else none
    | a => if n = 1 ∧ off + 1 ≤ cs.length then fillA (cs.set off a) pl ps else none
  | _, _, _ => none
def loV : Bool → Int → Int
  | true, i => i
  | false, _ => 0
inductive PuR (P : Program) : PO → List AV → AV → Prop
  | mv (a : AV) : PuR P .mv [a] a
  | pick (c : Bool) (a b : AV) : PuR P .pick [.p (.bool c), a, b] (if c then a else b)
  | nil_ptr (id off : Nat) : PuR P .nilck [.ptr id off] (.ptr id off)
  | nil_eptr (id sz i j : Nat) : PuR P .nilck [.eptr id sz i j] (.eptr id sz i j)
  | nil_dptr (sz : Nat) (xs : List (List AV)) (i j : Nat) : PuR P .nilck [.dptr sz xs i j] (.dptr sz xs i j)
  | nil_fn (f : Nat) (xs ys : List AV) : PuR P .nilck [.fn (.func f) xs ys] (.fn (.func f) xs ys)
  | add_ptr (n id off : Nat) : PuR P (.addOff n) [.ptr id off] (.ptr id (off + n))
  | add_eptr (n id sz i j : Nat) : PuR P (.addOff n) [.eptr id sz i j] (.eptr id sz i (j + n))
  | add_dptr (n sz : Nat) (xs : List (List AV)) (i j : Nat) : PuR P (.addOff n) [.dptr sz xs i j] (.dptr sz xs i (j + n))
  | idx_dsl (sz : Nat) (xs : List (List AV)) (k : IntKind) (i : Int) : 0 < sz → 0 ≤ i → i < xs.length → PuR P (.idx sz) [.dsl sz xs, .p (.int k i)] (.dptr sz xs i.toNat 0)
  | idx_osl (sz id off n : Nat) (k : IntKind) (i : Int) : 0 ≤ i → i < n → PuR P (.idx sz) [.osl id sz off n, .p (.int k i)] (.eptr id sz (off + i.toNat) 0)
  | aidx_ptr (len sz id off : Nat) (k : IntKind) (i : Int) : 0 ≤ i → i < len → PuR P (.aidx len sz) [.ptr id off, .p (.int k i)] (.ptr id (off + i.toNat * sz))
  | aidx_eptr (len sz id sz' i' j : Nat) (k : IntKind) (i : Int) : 0 ≤ i → i < len → PuR P (.aidx len sz) [.eptr id sz' i' j, .p (.int k i)] (.eptr id sz' i' (j + i.toNat * sz))
  | aidx_dptr (len sz sz' i' j : Nat) (xs : List (List AV)) (k : IntKind) (i : Int) : 0 ≤ i → i < len → PuR P (.aidx len sz) [.dptr sz' xs i' j, .p (.int k i)] (.dptr sz' xs i' (j + i.toNat * sz))
  | fld_agg (off n : Nat) (cs : List AV) : off + n ≤ cs.length → PuR P (.fld off n true) [.agg cs] (.agg ((cs.drop off).take n))
  | fld_one (off n : Nat) (cs : List AV) (a : AV) : cs[off]? = some a → PuR P (.fld off n false) [.agg cs] a
  | ext (i : Nat) (cs : List AV) (a : AV) : cs[i]? = some a → PuR P (.ext i) [.tup cs] a
  | add_i (t : TypeId) (k : IntKind) (x y z : Int) : k.wrap (x + y) = z → PuR P (.bin .add t) [.p (.int k x), .p (.int k y)] (.p (.int k z))
  | sub_i (t : TypeId) (k : IntKind) (x y z : Int) : k.wrap (x - y) = z → PuR P (.bin .sub t) [.p (.int k x), .p (.int k y)] (.p (.int k z))
  | mul_i (t : TypeId) (k : IntKind) (x y z : Int) : k.wrap (x * y) = z → PuR P (.bin .mul t) [.p (.int k x), .p (.int k y)] (.p (.int k z))
  | quo_i (t : TypeId) (k : IntKind) (x y z : Int) : y ≠ 0 → k.wrap (x.tdiv y) = z → PuR P (.bin .quo t) [.p (.int k x), .p (.int k y)] (.p (.int k z))
  | rem_i (t : TypeId) (k : IntKind) (x y z : Int) : y ≠ 0 → x.tmod y = z → PuR P (.bin .rem t) [.p (.int k x), .p (.int k y)] (.p (.int k z))
  | and_i (t : TypeId) (k : IntKind) (x y z : Int) : k.wrap (BitVec.ofInt k.bits x &&& BitVec.ofInt k.bits y).toNat = z → PuR P (.bin .and t) [.p (.int k x), .p (.int k y)] (.p (.int k z))
  | or_i (t : TypeId) (k : IntKind) (x y z : Int) : k.wrap (BitVec.ofInt k.bits x ||| BitVec.ofInt k.bits y).toNat = z → PuR P (.bin .or t) [.p (.int k x), .p (.int k y)] (.p (.int k z))
  | xor_i (t : TypeId) (k : IntKind) (x y z : Int) : k.wrap (BitVec.ofInt k.bits x ^^^ BitVec.ofInt k.bits y).toNat = z → PuR P (.bin .xor t) [.p (.int k x), .p (.int k y)] (.p (.int k z))
  | eql_i (t : TypeId) (k : IntKind) (x y : Int) : PuR P (.bin .eql t) [.p (.int k x), .p (.int k y)] (.p (.bool (decide (x = y))))
  | neq_i (t : TypeId) (k : IntKind) (x y : Int) : PuR P (.bin .neq t) [.p (.int k x), .p (.int k y)] (.p (.bool (decide (x ≠ y))))
  | lss_i (t : TypeId) (k : IntKind) (x y : Int) : PuR P (.bin .lss t) [.p (.int k x), .p (.int k y)] (.p (.bool (decide (x < y))))
  | leq_i (t : TypeId) (k : IntKind) (x y : Int) : PuR P (.bin .leq t) [.p (.int k x), .p (.int k y)] (.p (.bool (decide (x ≤ y))))
  | gtr_i (t : TypeId) (k : IntKind) (x y : Int) : PuR P (.bin .gtr t) [.p (.int k x), .p (.int k y)] (.p (.bool (decide (x > y))))
  | geq_i (t : TypeId) (k : IntKind) (x y : Int) : PuR P (.bin .geq t) [.p (.int k x), .p (.int k y)] (.p (.bool (decide (x ≥ y))))
  | shl_i (t : TypeId) (k k' : IntKind) (x y z : Int) : 0 ≤ y → k.wrap (x * 2 ^ (min y.toNat k.bits)) = z → PuR P (.bin .shl t) [.p (.int k x), .p (.int k' y)] (.p (.int k z))
  | shr_i (t : TypeId) (k k' : IntKind) (x y z : Int) : 0 ≤ y → x.fdiv (2 ^ (min y.toNat k.bits)) = z → PuR P (.bin .shr t) [.p (.int k x), .p (.int k' y)] (.p (.int k z))
  | eql_b (t : TypeId) (x y : Bool) : P.underlying t = some .bool → PuR P (.bin .eql t) [.p (.bool x), .p (.bool y)] (.p (.bool (x == y)))
  | neq_b (t : TypeId) (x y : Bool) : P.underlying t = some .bool → PuR P (.bin .neq t) [.p (.bool x), .p (.bool y)] (.p (.bool (!(x == y))))
  | eql_v (t : TypeId) (a b : AV) (us vs : Array Value) (r : Bool) : a.val = some (.agg us) → b.val = some (.agg vs) → P.eqGuardType P.depth t = false → (∀ w, (Op.equal t (.agg us) (.agg vs)).run P w = .ok r w) → PuR P (.bin .eql t) [a, b] (.p (.bool r))
  | neq_v (t : TypeId) (a b : AV) (us vs : Array Value) (r : Bool) : a.val = some (.agg us) → b.val = some (.agg vs) → P.eqGuardType P.depth t = false → (∀ w, (Op.equal t (.agg us) (.agg vs)).run P w = .ok r w) → PuR P (.bin .neq t) [a, b] (.p (.bool (!r)))
  | eqnil_dsl (t e : TypeId) (sz : Nat) (xs : List (List AV)) : P.underlying t = some (.slice e) → 0 < sz → 0 < xs.length → PuR P (.bin .eql t) [.dsl sz xs, .p (.slice none 0 0)] (.p (.bool false))
  | eqnil_osl (t e : TypeId) (id sz off n : Nat) : P.underlying t = some (.slice e) → 0 < n → PuR P (.bin .eql t) [.osl id sz off n, .p (.slice none 0 0)] (.p (.bool false))
  | eqnil_p (t e : TypeId) (A : Option Addr) (n c : Nat) : P.underlying t = some (.slice e) → PuR P (.bin .eql t) [.p (.slice A n c), .p (.slice none 0 0)] (.p (.bool A.isNone))
  | nenil_dsl (t e : TypeId) (sz : Nat) (xs : List (List AV)) : P.underlying t = some (.slice e) → 0 < sz → 0 < xs.length → PuR P (.bin .neq t) [.dsl sz xs, .p (.slice none 0 0)] (.p (.bool true))
  | nenil_osl (t e : TypeId) (id sz off n : Nat) : P.underlying t = some (.slice e) → 0 < n → PuR P (.bin .neq t) [.osl id sz off n, .p (.slice none 0 0)] (.p (.bool true))
  | nenil_p (t e : TypeId) (A : Option Addr) (n c : Nat) : P.underlying t = some (.slice e) → PuR P (.bin .neq t) [.p (.slice A n c), .p (.slice none 0 0)] (.p (.bool (!A.isNone)))
  | eql_s (t : TypeId) (x y : ByteArray) : PuR P (.bin .eql t) [.p (.string x), .p (.string y)] (.p (.bool (x.toList == y.toList)))
  | neq_s (t : TypeId) (x y : ByteArray) : PuR P (.bin .neq t) [.p (.string x), .p (.string y)] (.p (.bool (!(x.toList == y.toList))))
  | add_s (t : TypeId) (x y : ByteArray) : x.size + y.size ≤ maxLen → PuR P (.bin .add t) [.p (.string x), .p (.string y)] (.p (.string (x ++ y)))
  | lss_s (t : TypeId) (x y : ByteArray) : PuR P (.bin .lss t) [.p (.string x), .p (.string y)] (.p (.bool (Op.bytesLess x.toList y.toList)))
  | neg_i (k : IntKind) (x z : Int) : k.wrap (0 - x) = z → PuR P (.un .neg) [.p (.int k x)] (.p (.int k z))
  | not_b (x : Bool) : PuR P (.un .not) [.p (.bool x)] (.p (.bool (!x)))
  | conv_i (k j : IntKind) (x z : Int) : k.wrap x = z → PuR P (.conv k) [.p (.int j x)] (.p (.int k z))
  | same_s (x : ByteArray) : PuR P .same [.p (.string x)] (.p (.string x))
  | len_dsl (sz : Nat) (xs : List (List AV)) : PuR P .len [.dsl sz xs] (.p (.int .i64 xs.length))
  | len_osl (id sz off n : Nat) : PuR P .len [.osl id sz off n] (.p (.int .i64 n))
  | len_nil (A : Option Addr) (c : Nat) : PuR P .len [.p (.slice A 0 c)] (.p (.int .i64 0))
  | len_s (x : ByteArray) : PuR P .slen [.p (.string x)] (.p (.int .i64 x.size))
  | slc_00 (sz : Nat) (xs : List (List AV)) : PuR P (.slc sz false false) [.dsl sz xs] (.dsl sz xs)
  | slc_10 (sz : Nat) (xs : List (List AV)) (k : IntKind) (lo : Int) : 0 ≤ lo → lo ≤ xs.length → PuR P (.slc sz true false) [.dsl sz xs, .p (.int k lo)] (.dsl sz (xs.drop lo.toNat))
  | slc_01 (sz : Nat) (xs : List (List AV)) (k : IntKind) (hi : Int) : 0 ≤ hi → hi ≤ xs.length → PuR P (.slc sz false true) [.dsl sz xs, .p (.int k hi)] (.dsl sz (xs.take hi.toNat))
  | slc_11 (sz : Nat) (xs : List (List AV)) (k k' : IntKind) (lo hi : Int) : 0 ≤ lo → lo ≤ hi → hi ≤ xs.length → PuR P (.slc sz true true) [.dsl sz xs, .p (.int k lo), .p (.int k' hi)] (.dsl sz ((xs.drop lo.toNat).take (hi.toNat - lo.toNat)))
  | slo_00 (sz id off n : Nat) : PuR P (.slc sz false false) [.osl id sz off n] (.osl id sz off n)
  | slo_10 (sz id off n : Nat) (k : IntKind) (lo : Int) : 0 ≤ lo → lo ≤ n → PuR P (.slc sz true false) [.osl id sz off n, .p (.int k lo)] (.osl id sz (off + lo.toNat) (n - lo.toNat))
  | slo_01 (sz id off n : Nat) (k : IntKind) (hi : Int) : 0 ≤ hi → hi ≤ n → PuR P (.slc sz false true) [.osl id sz off n, .p (.int k hi)] (.osl id sz off hi.toNat)
  | slo_11 (sz id off n : Nat) (k k' : IntKind) (lo hi : Int) : 0 ≤ lo → lo ≤ hi → hi ≤ n → PuR P (.slc sz true true) [.osl id sz off n, .p (.int k lo), .p (.int k' hi)] (.osl id sz (off + lo.toNat) (hi.toNat - lo.toNat))
  | ssl_00 (s : ByteArray) : PuR P (.ssl false false) [.p (.string s)] (.p (.string (s.extract 0 s.size)))
  | ssl_10 (s : ByteArray) (k : IntKind) (lo : Int) : 0 ≤ lo → lo ≤ s.size → PuR P (.ssl true false) [.p (.string s), .p (.int k lo)] (.p (.string (s.extract lo.toNat s.size)))
  | ssl_01 (s : ByteArray) (k : IntKind) (hi : Int) : 0 ≤ hi → hi ≤ s.size → PuR P (.ssl false true) [.p (.string s), .p (.int k hi)] (.p (.string (s.extract 0 hi.toNat)))
  | ssl_11 (s : ByteArray) (k k' : IntKind) (lo hi : Int) : 0 ≤ lo → lo ≤ hi → hi ≤ s.size → PuR P (.ssl true true) [.p (.string s), .p (.int k lo), .p (.int k' hi)] (.p (.string (s.extract lo.toNat hi.toNat)))
  | sidx (s : ByteArray) (k : IntKind) (i : Int) (b : UInt8) : 0 ≤ i → s[i.toNat]? = some b → PuR P .sidx [.p (.string s), .p (.int k i)] (.p (.int .u8 b.toNat))
  | vidx_agg (len sz : Nat) (k : IntKind) (i : Int) (cs : List AV) : 0 ≤ i → i < len → i.toNat * sz + sz ≤ cs.length → PuR P (.vidx len sz true) [.agg cs, .p (.int k i)] (.agg ((cs.drop (i.toNat * sz)).take sz))
  | vidx_one (len sz : Nat) (k : IntKind) (i : Int) (cs : List AV) (a : AV) : 0 ≤ i → i < len → cs[i.toNat * sz]? = some a → PuR P (.vidx len sz false) [.agg cs, .p (.int k i)] a
  | cap_nil (c : Nat) : PuR P .cap [.p (.slice none 0 c)] (.p (.int .i64 c))
  | slc_nil (sz : Nat) (k : IntKind) : PuR P (.slc sz false true) [.p (.slice none 0 0), .p (.int k 0)] (.p (.slice none 0 0))
  | mn_i (k : IntKind) (x y : Int) : PuR P .mn [.p (.int k x), .p (.int k y)] (.p (.int k (if y < x then y else x)))
  | mx_i (k : IntKind) (x y : Int) : PuR P .mx [.p (.int k x), .p (.int k y)] (.p (.int k (if y > x then y else x)))
  | mkfn (f : Fn) (nf : Nat) (xs : List AV) : nf ≤ xs.length → PuR P (.mkfn f nf) xs (.fn f (xs.take nf) (xs.drop nf))
  | bld (z : List AV) (pl : List (Nat × Nat)) (xs : List AV) (cs : List AV) : xs.all AV.part = true → fillA z pl xs = some cs → PuR P (.bld z pl) xs (.agg cs)

/-- which operation it is; the operands in order -/
def optL : Option Operand → List Operand
  | none => []
  | some x => [x]
def aggB (P : Program) (t : TypeId) : Option Bool :=
  match P.underlying t with
  | some (.struct _) => some true
  | some (.array _ _) => some true
  | some _ => some false
  | none => none
def avOf : Value → AV
  | v => .p v
def zeroA (P : Program) (t : TypeId) : Option (List AV) :=
  match P.info? t with
  | some i => match i.zero with
    | some z => if z.cells.all (·.oneCell') then some (z.cells.toList.map .p) else none
    | none => none
  | none => none
def clsP (P : Program) (o : Op) : Option (PO × List Operand) :=
  match o with
  | .move x | .assign x => some (.mv, [x])
  | .pick c a b => some (.pick, [c, a, b])
  | .nilCheck x => some (.nilck, [x])
  | .fieldAddr t x f => match P.underlying t with
    | some (.struct fields) => match fields[f]? with
      | some fd => match P.info? fd.type with
        | some i => if i.size = 0 then none else some (.addOff fd.offset, [x])
        | none => none
      | none => none
    | _ => none
  | .indexAddr t x i => match P.underlying t with
    | some (.slice e) => (P.info? e).map fun j => (.idx j.size, [x, i])
    | some (.array n e) => (P.info? e).map fun j => (.aidx n j.size, [x, i])
    | _ => none
  | .field t x f => match P.underlying t with
    | some (.struct fields) => match fields[f]? with
      | some fd => match aggB P fd.type, P.info? fd.type with
        | some b, some j => some (.fld fd.offset j.size b, [x])
        | _, _ => none
      | none => none
    | _ => none
  | .extract x i => some (.ext i, [x])
  | .binOp op t x y _ => some (.bin op t, [x, y])
  | .unOp op _ x => some (.un op, [x])
  | .convert s d x => match P.underlying s, P.underlying d with
    | some (.int _), some (.int k) => some (.conv k, [x])
    | some .string, some .string => some (.same, [x])
    | _, _ => none
  | .slice t x lo hi none => match P.underlying t with
    | some (.slice e) => (P.info? e).map fun j => (.slc j.size lo.isSome hi.isSome, x :: optL lo ++ optL hi)
    | some .string => some (.ssl lo.isSome hi.isSome, x :: optL lo ++ optL hi)
    | _ => none
  | .index t x i => match P.underlying t with
    | some .string => some (.sidx, [x, i])
    | some (.array n e) => match aggB P e, P.info? e with
      | some b, some j => some (.vidx n j.size b, [x, i])
      | _, _ => none
    | _ => none
  | .makeFunc f xs ys => some (.mkfn f xs.size, xs.toList ++ ys.toList)
  | .build t parts => match P.underlying t, zeroA P t with
    | some (.struct fields), some z => match fields.toList.mapM (fun f => (P.info? f.type).map fun i => (f.offset, i.size)) with
      | some places => match parts.toList.mapM (fun x => places[x.1]?) with
        | some pl => some (.bld z pl, parts.toList.map (·.2))
        | none => none
      | none => none
    | some (.array _ e), some z => match P.info? e with
      | some j => some (.bld z (parts.toList.map fun x => (x.1 * j.size, j.size)), parts.toList.map (·.2))
      | none => none
    | _, _ => none
  | .call c => match c.callee with
    | .builtin .len => match (c.argTypes[0]?).bind P.underlying with
      | some .string => match c.args.toList with | [x] => some (.slen, [x]) | _ => none
      | some (.slice _) => match c.args.toList with | [x] => some (.len, [x]) | _ => none
      | _ => none
    | .builtin .cap => match (c.argTypes[0]?).bind P.underlying with
      | some (.slice _) => match c.args.toList with | [x] => some (.cap, [x]) | _ => none
      | _ => none
    | .builtin .min => match c.args.toList with | [x, y] => some (.mn, [x, y]) | _ => none
    | .builtin .max => match c.args.toList with | [x, y] => some (.mx, [x, y]) | _ => none
    | _ => none
  | _ => none
end Go.Proofs.Ytaepnmnoofigjaa

/- Operations that touch no memory: what the model does is what the abstract rules say. Nothing of the program is named here. -/
namespace Go.Proofs.Ytaepnmnoofigjaa
open Go.RowKit

section
variable {P : Program} {w : World} {S : Nat → Prop} {σ : Nat → Option Value} {ev : Operand → Value}
theorem Rps.one_inv {a : AV} {vs : List Value} (h : Rps w S σ [a] vs) : ∃ v, vs = [v] ∧ Rp w S σ a v := by
  obtain ⟨v, r, rfl, h1, h2⟩ := h.uncons
  obtain rfl := h2.nil_inv
  exact ⟨v, rfl, h1⟩
theorem Rps.two_inv {a b : AV} {vs : List Value} (h : Rps w S σ [a, b] vs) : ∃ v u, vs = [v, u] ∧ Rp w S σ a v ∧ Rp w S σ b u := by
  obtain ⟨v, r, rfl, h1, h2⟩ := h.uncons
  obtain ⟨u, rfl, h3⟩ := h2.one_inv
  exact ⟨v, u, rfl, h1, h3⟩
theorem Rps.three_inv {a b c : AV} {vs : List Value} (h : Rps w S σ [a, b, c] vs) : ∃ v u x, vs = [v, u, x] ∧ Rp w S σ a v ∧ Rp w S σ b u ∧ Rp w S σ c x := by
  obtain ⟨v, r, rfl, h1, h2⟩ := h.uncons
  obtain ⟨u, x, rfl, h3, h4⟩ := h2.two_inv
  exact ⟨v, u, x, rfl, h1, h3, h4⟩
theorem Rps.drop {cs : List AV} {vs : List Value} (h : Rps w S σ cs vs) (n : Nat) : Rps w S σ (cs.drop n) (vs.drop n) :=
  ⟨by rw [List.length_drop, List.length_drop, h.1], fun i a v ha hv => h.2 (n + i) a v (by rw [List.getElem?_drop] at ha; exact ha) (by rw [List.getElem?_drop] at hv; exact hv)⟩
theorem Rps.take {cs : List AV} {vs : List Value} (h : Rps w S σ cs vs) (n : Nat) : Rps w S σ (cs.take n) (vs.take n) := by
  refine ⟨by rw [List.length_take, List.length_take, h.1], fun i a v ha hv => ?_⟩
  rw [List.getElem?_take] at ha hv
  split at ha
  · rename_i hi; rw [if_pos hi] at hv; exact h.2 i a v ha hv
  · cases ha
theorem Rps.set {cs : List AV} {vs : List Value} (h : Rps w S σ cs vs) {a : AV} {v : Value} (ha : Rp w S σ a v) (n : Nat) : Rps w S σ (cs.set n a) (vs.set n v) := by
  refine ⟨by rw [List.length_set, List.length_set, h.1], fun i b u hb hu => ?_⟩
  by_cases hi : n = i
  · subst hi
    rw [List.getElem?_set] at hb hu
    rw [if_pos rfl] at hb hu
    split at hb
    · split at hu
      · injection hb with hb; injection hu with hu; subst hb; subst hu; exact ha
      · cases hu
    · cases hb
  · rw [List.getElem?_set_ne hi] at hb hu; exact h.2 i b u hb hu
theorem Rps.at_ {cs : List AV} {vs : List Value} (h : Rps w S σ cs vs) {i : Nat} {a : AV} (ha : cs[i]? = some a) : ∃ v, vs[i]? = some v ∧ Rp w S σ a v := by
  have hi : i < vs.length := by rw [← h.1]; exact (List.getElem?_eq_some_iff.1 ha).1
  exact ⟨_, List.getElem?_eq_getElem hi, h.2 i a _ ha (List.getElem?_eq_getElem hi)⟩
theorem addr_add (g o n : Nat) : Addr.add ⟨g, o, none⟩ n = ⟨g, o + n, none⟩ := by
  unfold Addr.add
  split
  · rename_i h; subst h; rfl
  · rfl
theorem mem_drop {vs : List Value} {n : Nat} (h : ∀ u ∈ vs, u.oneCell' = true) : ∀ u ∈ vs.drop n, u.oneCell' = true := fun u hu => h u (List.mem_of_mem_drop hu)
theorem mem_take {vs : List Value} {n : Nat} (h : ∀ u ∈ vs, u.oneCell' = true) : ∀ u ∈ vs.take n, u.oneCell' = true := fun u hu => h u (List.mem_of_mem_take hu)

def Val1 (P : Program) (w : World) (S : Nat → Prop) (σ : Nat → Option Value) (ev : Operand → Value) (o : Oper) (a : AV) : Prop := ∃ v, (execOp ev o).run P w = .ok (.value v) w ∧ Rp w S σ a v

theorem pu_mv {o : Oper} {x : Operand} {a : AV} {args : List AV} (ho : o.op = .move x ∨ o.op = .assign x) (hp : PuR P .mv args a) (hr : Rps w S σ args [ev x]) : Val1 P w S σ ev o a := by
  cases hp
  obtain ⟨v, e, h⟩ := hr.one_inv
  injection e with e; subst e
  refine ⟨_, ?_, h⟩
  rcases ho with ho | ho <;> simp [execOp, ho, pure, Sem.run]
theorem pu_pick {o : Oper} {x y z : Operand} {a : AV} {args : List AV} (ho : o.op = .pick x y z) (hp : PuR P .pick args a) (hr : Rps w S σ args [ev x, ev y, ev z]) : Val1 P w S σ ev o a := by
  cases hp with
  | pick c a b =>
    obtain ⟨v, u, r, e, h1, h2, h3⟩ := hr.three_inv
    simp only [List.cons.injEq, and_true] at e
    obtain ⟨rfl, rfl, rfl⟩ := e
    obtain ⟨hx, _⟩ := h1.p_inv
    refine ⟨if c then ev y else ev z, ?_, by cases c; exact h3; exact h2⟩
    cases c <;> go_simp <;> simp [execOp, ho, hx, asBool, pure, Sem.run, bind, Sem.bind]
theorem pu_nilck {o : Oper} {x : Operand} {a : AV} {args : List AV} (ho : o.op = .nilCheck x) (hp : PuR P .nilck args a) (hr : Rps w S σ args [ev x]) : Val1 P w S σ ev o a := by
  cases hp
  all_goals
    obtain ⟨v, e, h⟩ := hr.one_inv
    injection e with e; subst e
    refine ⟨ev x, ?_, h⟩
  · obtain ⟨g, hx, _⟩ := h.ptr_inv
    simp [execOp, ho, hx, pure, Sem.run]
  · obtain ⟨g, o1, n, c, hx, _⟩ := h.eptr_inv
    simp [execOp, ho, hx, pure, Sem.run]
  · obtain ⟨g, o1, c, hx, _⟩ := h.dptr_inv
    simp [execOp, ho, hx, pure, Sem.run]
  · obtain ⟨fs, cs, hx, _⟩ := h.fn_inv
    simp [execOp, ho, hx, pure, Sem.run]
theorem pu_addOff {o : Oper} {t : TypeId} {x : Operand} {f : Nat} {fields : Array Field} {fd : Field} {i : TypeInfo} {a : AV} {args : List AV} (ho : o.op = .fieldAddr t x f)
    (h1 : P.underlying t = some (.struct fields)) (h2 : fields[f]? = some fd) (h3 : P.info? fd.type = some i) (h4 : i.size ≠ 0) (hp : PuR P (.addOff fd.offset) args a) (hr : Rps w S σ args [ev x]) : Val1 P w S σ ev o a := by
  have run : ∀ g off, ev x = .pointer (some ⟨g, off, none⟩) → (execOp ev o).run P w = .ok (.value (.pointer (some ⟨g, off + fd.offset, none⟩))) w := by
    intro g off hx
    simp [execOp, ho, Instr.fieldAt, run_underlying h1, h2, hx, Instr.sureAddr, fieldPlace, sizeOf, typeInfo, h3, h4, addr_add]
  cases hp
  all_goals
    obtain ⟨v, e, h⟩ := hr.one_inv
    injection e with e; subst e
  · obtain ⟨g, hx, hs⟩ := h.ptr_inv
    exact ⟨_, run _ _ hx, .ptr _ _ g hs⟩
  · obtain ⟨g, o1, n, c, hx, hs⟩ := h.eptr_inv
    refine ⟨_, run _ _ hx, ?_⟩
    rw [Nat.add_assoc]
    exact .eptr _ _ _ _ g o1 n c hs
  · obtain ⟨g, o1, c, hx, hs, hi⟩ := h.dptr_inv
    refine ⟨_, run _ _ hx, ?_⟩
    rw [Nat.add_assoc]
    exact .dptr _ _ _ _ g o1 c hs hi
theorem pu_idx {o : Oper} {t e : TypeId} {x y : Operand} {j : TypeInfo} {a : AV} {args : List AV} (ho : o.op = .indexAddr t x y)
    (h1 : P.underlying t = some (.slice e)) (h3 : P.info? e = some j) (hp : PuR P (.idx j.size) args a) (hr : Rps w S σ args [ev x, ev y]) (hsz : ∀ id A n c, σ id = some (.slice A n c) → n ≤ c ∧ (0 < c → ∃ g o, A = some ⟨g, o, none⟩)) : Val1 P w S σ ev o a := by
  cases hp with
  | idx_dsl sz xs k i hpos hi0 hi1 =>
    obtain ⟨v, u, e, q1, q2⟩ := hr.two_inv
    simp only [List.cons.injEq, and_true] at e
    obtain ⟨rfl, rfl⟩ := e
    obtain ⟨hy, _⟩ := q2.p_inv
    have hD := q1.dsl_inv
    obtain ⟨A, c, z, hx, r1, r2, r3, r4, r5, r6⟩ := hD.dsl_inv
    have hlt : i.toNat < xs.length := by omega
    have hel := r3 _ (List.getElem_mem hlt)
    obtain ⟨g, off, rfl, _, _⟩ := r4 i.toNat _ 0 _ (List.getElem?_eq_getElem hlt) (List.getElem?_eq_getElem (by omega))
    refine ⟨.pointer (some ⟨g, off + i.toNat * j.size + 0, none⟩), ?_, .dptr _ _ _ _ g off c (by rw [← hx]; exact hD) hlt⟩
    have hlt' : i < (xs.length : Int) := hi1
    simp [execOp, ho, Instr.indexAt, run_underlying h1, hx, hy, asIntOf, hi0, hlt', sizeOf, typeInfo, h3, addr_add]
  | idx_osl sz id off n k i hi0 hi1 =>
    obtain ⟨v, u, e, q1, q2⟩ := hr.two_inv
    simp only [List.cons.injEq, and_true] at e
    obtain ⟨rfl, rfl⟩ := e
    obtain ⟨hy, _⟩ := q2.p_inv
    obtain ⟨A, B, N, c, cc, hx, hs, hle, hoc, hB⟩ := q1.osl_inv
    obtain ⟨hN, hNc⟩ := hsz id A N c hs
    obtain ⟨g, o1, rfl⟩ := hNc (by omega)
    obtain rfl := hB (by omega)
    rw [Option.map_some, addr_add] at hx
    refine ⟨.pointer (some ⟨g, o1 + (off + i.toNat) * j.size + 0, none⟩), ?_, .eptr _ _ _ _ g o1 N c hs⟩
    have hlt' : i < (n : Int) := hi1
    simp [execOp, ho, Instr.indexAt, run_underlying h1, hx, hy, asIntOf, hi0, hlt', sizeOf, typeInfo, h3, addr_add, Nat.add_mul, Nat.add_assoc]
theorem pu_aidx {o : Oper} {t e : TypeId} {m : Nat} {x y : Operand} {j : TypeInfo} {a : AV} {args : List AV} (ho : o.op = .indexAddr t x y)
    (h1 : P.underlying t = some (.array m e)) (h3 : P.info? e = some j) (hp : PuR P (.aidx m j.size) args a) (hr : Rps w S σ args [ev x, ev y]) : Val1 P w S σ ev o a := by
  have run : ∀ g off k (i : Int), ev x = .pointer (some ⟨g, off, none⟩) → ev y = .int k i → 0 ≤ i → i < (m : Int) → (execOp ev o).run P w = .ok (.value (.pointer (some ⟨g, off + i.toNat * j.size, none⟩))) w := by
    intro g off k i hx hy h0 h2
    simp [execOp, ho, Instr.indexAt, run_underlying h1, hx, hy, asIntOf, h0, h2, sizeOf, typeInfo, h3, addr_add, Instr.sureAddr]
  cases hp
  all_goals
    obtain ⟨v, u, e, q1, q2⟩ := hr.two_inv
    simp only [List.cons.injEq, and_true] at e
    obtain ⟨rfl, rfl⟩ := e
    obtain ⟨hy, _⟩ := q2.p_inv
  · obtain ⟨g, hx, hs⟩ := q1.ptr_inv
    exact ⟨_, run _ _ _ _ hx hy ‹_› ‹_›, .ptr _ _ g hs⟩
  · obtain ⟨g, o1, n, c, hx, hs⟩ := q1.eptr_inv
    refine ⟨_, run _ _ _ _ hx hy ‹_› ‹_›, ?_⟩
    rw [Nat.add_assoc]
    exact .eptr _ _ _ _ g o1 n c hs
  · obtain ⟨g, o1, c, hx, hs, hi⟩ := q1.dptr_inv
    refine ⟨_, run _ _ _ _ hx hy ‹_› ‹_›, ?_⟩
    rw [Nat.add_assoc]
    exact .dptr _ _ _ _ g o1 c hs hi
theorem run_isAggB {t : TypeId} {b : Bool} (h : aggB P t = some b) : (isAgg t).run P w = .ok b w := by
  unfold aggB at h
  cases hu : P.underlying t with
  | none => rw [hu] at h; cases h
  | some d =>
    rw [hu] at h
    cases d <;> simp only [Option.some.injEq] at h <;> subst h <;> simp [isAgg, run_underlying hu]
theorem pu_fld {o : Oper} {t : TypeId} {x : Operand} {f : Nat} {fields : Array Field} {fd : Field} {j : TypeInfo} {b : Bool} {a : AV} {args : List AV} (ho : o.op = .field t x f)
    (h1 : P.underlying t = some (.struct fields)) (h2 : fields[f]? = some fd) (h3 : aggB P fd.type = some b) (h4 : P.info? fd.type = some j) (hp : PuR P (.fld fd.offset j.size b) args a) (hr : Rps w S σ args [ev x]) : Val1 P w S σ ev o a := by
  have hag := run_isAggB (w := w) h3
  cases hp with
  | fld_agg off n cs hle =>
    obtain ⟨v, e, h⟩ := hr.one_inv
    injection e with e; subst e
    obtain ⟨vs, hx, hv, hv1⟩ := h.agg_inv
    refine ⟨.agg (vs.extract fd.offset (fd.offset + j.size)), ?_, ?_⟩
    · simp [execOp, ho, Instr.field, run_underlying h1, h2, hx, asAgg, part, hag, sizeOf, typeInfo, h4]
    · refine Rps.agg ?_ (fun u hu => hv1 u (by have h1 := Array.mem_toList_iff.2 hu; rw [Array.toList_extract] at h1; simp only [List.extract] at h1; exact Array.mem_toList_iff.1 (List.mem_of_mem_drop (List.mem_of_mem_take h1))))
      have : (vs.extract fd.offset (fd.offset + j.size)).toList = (vs.toList.drop fd.offset).take j.size := by
        rw [Array.toList_extract]; simp [List.extract]
      rw [this]
      exact (hv.drop _).take _
  | fld_one off n cs a ha =>
    obtain ⟨v, e, h⟩ := hr.one_inv
    injection e with e; subst e
    obtain ⟨vs, hx, hv, hv1⟩ := h.agg_inv
    obtain ⟨u, hu, hau⟩ := hv.at_ ha
    refine ⟨u, ?_, hau⟩
    rw [Array.getElem?_toList] at hu
    simp [execOp, ho, Instr.field, run_underlying h1, h2, hx, asAgg, part, hag, hu]
theorem pu_vidx {o : Oper} {t e : TypeId} {x y : Operand} {n : Nat} {j : TypeInfo} {b : Bool} {a : AV} {args : List AV} (ho : o.op = .index t x y)
    (h1 : P.underlying t = some (.array n e)) (h3 : aggB P e = some b) (h4 : P.info? e = some j) (hp : PuR P (.vidx n j.size b) args a) (hr : Rps w S σ args [ev x, ev y]) : Val1 P w S σ ev o a := by
  have hag := run_isAggB (w := w) h3
  cases hp with
  | vidx_agg _ _ k i cs i0 i1 hle =>
    obtain ⟨v, u, e, h, h'⟩ := hr.two_inv
    simp only [List.cons.injEq, and_true] at e
    obtain ⟨rfl, rfl⟩ := e
    obtain ⟨vs, hx, hv, hv1⟩ := h.agg_inv
    have hy := h'.p_inv.1
    refine ⟨.agg (vs.extract (i.toNat * j.size) (i.toNat * j.size + j.size)), ?_, ?_⟩
    · simp [execOp, ho, Instr.index, run_underlying h1, hx, hy, asIntOf, i0, i1, part, hag, sizeOf, typeInfo, h4]
    · refine Rps.agg ?_ (fun u hu => hv1 u (by have h1 := Array.mem_toList_iff.2 hu; rw [Array.toList_extract] at h1; simp only [List.extract] at h1; exact Array.mem_toList_iff.1 (List.mem_of_mem_drop (List.mem_of_mem_take h1))))
      have : (vs.extract (i.toNat * j.size) (i.toNat * j.size + j.size)).toList = (vs.toList.drop (i.toNat * j.size)).take j.size := by
        rw [Array.toList_extract]; simp [List.extract]
      rw [this]
      exact (hv.drop _).take _
  | vidx_one _ _ k i cs a i0 i1 ha =>
    obtain ⟨v, u, e, h, h'⟩ := hr.two_inv
    simp only [List.cons.injEq, and_true] at e
    obtain ⟨rfl, rfl⟩ := e
    obtain ⟨vs, hx, hv, hv1⟩ := h.agg_inv
    have hy := h'.p_inv.1
    obtain ⟨u, hu, hau⟩ := hv.at_ ha
    refine ⟨u, ?_, hau⟩
    rw [Array.getElem?_toList] at hu
    simp [execOp, ho, Instr.index, run_underlying h1, hx, hy, asIntOf, i0, i1, part, hag, sizeOf, typeInfo, h4, hu]
theorem pu_ext {o : Oper} {x : Operand} {i : Nat} {a : AV} {args : List AV} (ho : o.op = .extract x i) (hp : PuR P (.ext i) args a) (hr : Rps w S σ args [ev x]) : Val1 P w S σ ev o a := by
  cases hp with
  | ext _ cs a ha =>
    obtain ⟨v, e, h⟩ := hr.one_inv
    injection e with e; subst e
    obtain ⟨vs, hx, hv⟩ := h.tup_inv
    obtain ⟨u, hu, hau⟩ := hv.at_ ha
    refine ⟨u, ?_, hau⟩
    rw [Array.getElem?_toList] at hu
    simp [execOp, ho, Instr.extract, hx, hu]
theorem int_beq (a b : Int) : (a == b) = decide (a = b) := by by_cases h : a = b <;> simp [h]
theorem run_equal_bool {t : TypeId} (h : P.underlying t = some .bool) (x y : Bool) : (Op.equal t (.bool x) (.bool y)).run P w = .ok (x == y) w := by
  rw [Op.equal, Op.maxDepth, show (10000 : Nat) = 9999 + 1 from rfl, Op.equalIn]
  simp [run_underlying h]
theorem run_equal_nil {t e : TypeId} (h : P.underlying t = some (.slice e)) (A : Option Addr) (n c : Nat) : (Op.equal t (.slice A n c) (.slice none 0 0)).run P w = .ok A.isNone w := by
  rw [Op.equal, Op.maxDepth, show (10000 : Nat) = 9999 + 1 from rfl, Op.equalIn]
  cases A <;> simp [run_underlying h]
theorem eqGuard_agg {op : BinOp} {t : TypeId} {x y : Operand} {us vs : Array Value} (h : P.eqGuardType P.depth t = false) : (eqGuard op t x y (.agg us) (.agg vs)).run P w = .ok () w := by
  unfold eqGuard
  split <;> simp [h]
theorem vals_sound : ∀ {cs : List AV} {l vs : List Value}, vals cs = some l → Rps w S σ cs vs → vs = l
  | [], l, vs, h, hr => by simp only [vals, Option.some.injEq] at h; subst h; exact hr.nil_inv
  | a :: r, l, vs, h, hr => by
    cases a <;> simp only [vals] at h <;> try (cases h; done)
    rename_i v
    cases h1 : vals r with
    | none => rw [h1] at h; cases h
    | some l' =>
      rw [h1] at h
      simp only [Option.some.injEq] at h
      subst h
      obtain ⟨u, us, rfl, q1, q2⟩ := hr.uncons
      rw [q1.p_inv.1, vals_sound h1 q2]
theorem AV.val_sound {a : AV} {u v : Value} (h : a.val = some u) (hr : Rp w S σ a v) : v = u := by
  cases a <;> simp only [AV.val] at h <;> try (cases h; done)
  · injection h with h; subst h; exact hr.p_inv.1
  · rename_i cs
    cases h1 : vals cs with
    | none => rw [h1] at h; cases h
    | some l =>
      rw [h1] at h
      simp only [Option.some.injEq] at h
      subst h
      obtain ⟨vs, rfl, q, _⟩ := hr.agg_inv
      rw [← vals_sound h1 q, Array.toArray_toList]
theorem pu_bin {o : Oper} {op : BinOp} {t ty : TypeId} {x y : Operand} {a : AV} {args : List AV} (ho : o.op = .binOp op t x y ty) (hp : PuR P (.bin op t) args a) (hr : Rps w S σ args [ev x, ev y]) (hsz : ∀ id A n c, σ id = some (.slice A n c) → n ≤ c ∧ (0 < c → ∃ g o, A = some ⟨g, o, none⟩)) : Val1 P w S σ ev o a := by
  have key : ∀ v u r, ev x = v → ev y = u → (eqGuard op t x y v u).run P w = .ok () w → (binOp op t v u).run P w = .ok r w → (execOp ev o).run P w = .ok (.value r) w := by
    intro v u r hx hy h1 h2
    simp [execOp, ho, hx, hy, h1, h2]
  cases hp
  all_goals
    obtain ⟨v, u, e, q1, q2⟩ := hr.two_inv
    simp only [List.cons.injEq, and_true] at e
    obtain ⟨rfl, rfl⟩ := e
  case eql_v us vs r hu hv hg he => exact ⟨_, key _ _ _ (AV.val_sound hu q1) (AV.val_sound hv q2) (eqGuard_agg hg) (by simp [binOp, he]), .data _ _ (.p _ rfl)⟩
  case neq_v us vs r hu hv hg he => exact ⟨_, key _ _ _ (AV.val_sound hu q1) (AV.val_sound hv q2) (eqGuard_agg hg) (by simp [binOp, he]), .data _ _ (.p _ rfl)⟩
  case eqnil_dsl =>
    rename_i e sz xs hn' hsz0' hu'
    have hu : P.underlying t = some (.slice e) := by assumption
    have hn : 0 < xs.length := by assumption
    have hsz0 : 0 < sz := by assumption
    obtain ⟨A, c, z, hv, r1, r2, r3, r4, _⟩ := q1.dsl_inv.dsl_inv
    obtain ⟨e0, he0⟩ : ∃ e0, xs[0]? = some e0 := ⟨_, List.getElem?_eq_getElem hn⟩
    have hl0 := r3 e0 (List.mem_of_getElem? he0)
    obtain ⟨a0, ha0⟩ : ∃ a0, e0[0]? = some a0 := ⟨_, List.getElem?_eq_getElem (by omega)⟩
    obtain ⟨g, o', hA, _⟩ := r4 0 e0 0 a0 he0 ha0
    subst hA
    exact ⟨_, key _ _ _ hv q2.p_inv.1 (by simp [eqGuard]) (by simp [binOp, run_equal_nil hu]), .data _ _ (.p _ rfl)⟩
  case nenil_dsl =>
    rename_i e sz xs hn' hsz0' hu'
    have hu : P.underlying t = some (.slice e) := by assumption
    have hn : 0 < xs.length := by assumption
    have hsz0 : 0 < sz := by assumption
    obtain ⟨A, c, z, hv, r1, r2, r3, r4, _⟩ := q1.dsl_inv.dsl_inv
    obtain ⟨e0, he0⟩ : ∃ e0, xs[0]? = some e0 := ⟨_, List.getElem?_eq_getElem hn⟩
    have hl0 := r3 e0 (List.mem_of_getElem? he0)
    obtain ⟨a0, ha0⟩ : ∃ a0, e0[0]? = some a0 := ⟨_, List.getElem?_eq_getElem (by omega)⟩
    obtain ⟨g, o', hA, _⟩ := r4 0 e0 0 a0 he0 ha0
    subst hA
    exact ⟨_, key _ _ _ hv q2.p_inv.1 (by simp [eqGuard]) (by simp [binOp, run_equal_nil hu]), .data _ _ (.p _ rfl)⟩
  case eqnil_osl =>
    rename_i e id sz off n hn' hu'
    have hu : P.underlying t = some (.slice e) := by assumption
    have hn : 0 < n := by assumption
    obtain ⟨A, B, N, c, cc, hv, hsg, hle, hoc, hB⟩ := q1.osl_inv
    obtain ⟨g, o', hA⟩ := (hsz _ _ _ _ hsg).2 (by omega)
    subst hA
    have hBs := hB (by omega)
    rw [Option.map_some] at hBs
    subst hBs
    exact ⟨_, key _ _ _ hv q2.p_inv.1 (by simp [eqGuard]) (by simp [binOp, run_equal_nil hu]), .data _ _ (.p _ rfl)⟩
  case nenil_osl =>
    rename_i e id sz off n hn' hu'
    have hu : P.underlying t = some (.slice e) := by assumption
    have hn : 0 < n := by assumption
    obtain ⟨A, B, N, c, cc, hv, hsg, hle, hoc, hB⟩ := q1.osl_inv
    obtain ⟨g, o', hA⟩ := (hsz _ _ _ _ hsg).2 (by omega)
    subst hA
    have hBs := hB (by omega)
    rw [Option.map_some] at hBs
    subst hBs
    exact ⟨_, key _ _ _ hv q2.p_inv.1 (by simp [eqGuard]) (by simp [binOp, run_equal_nil hu]), .data _ _ (.p _ rfl)⟩
  all_goals
    have hx := q1.p_inv.1
    have hy := q2.p_inv.1
    refine ⟨_, key _ _ _ hx hy (by simp [eqGuard]) ?_, .data _ _ (.p _ rfl)⟩
    clear hr q1 q2 key hx hy
  case add_s hm =>
    simp only [binOp, Op.stringOp]
    rw [if_neg (by unfold maxLen at hm; simp [IntKind.max, IntKind.signed, IntKind.bits]; omega)]
    rfl
  case eqnil_p h => simp [binOp, run_equal_nil h]
  case nenil_p h => simp [binOp, run_equal_nil h]
  case eql_b _ _ h => simp [binOp, run_equal_bool h]
  case neq_b _ _ h => simp [binOp, run_equal_bool h]
  case eql_i a b => simp only [binOp, ne_eq, not_true_eq_false, if_false, Op.intCmp, int_beq]; rfl
  case neq_i a b => simp only [binOp, ne_eq, not_true_eq_false, if_false, Op.intCmp, bne, int_beq, decide_not]; rfl
  case shl_i h e => subst e; simp [binOp, Op.shift, Int.not_lt.2 h]
  case shr_i h e => subst e; simp [binOp, Op.shift, Int.not_lt.2 h]
  all_goals
    subst_vars
    first
    | rfl
    | (simp [binOp, Op.intArith, Op.intDiv, Op.intBits, Op.intCmp, Op.shift, Op.stringOp, *]; done)
    | skip
theorem pu_un {o : Oper} {op : UnOp} {t : TypeId} {x : Operand} {a : AV} {args : List AV} (ho : o.op = .unOp op t x) (hp : PuR P (.un op) args a) (hr : Rps w S σ args [ev x]) : Val1 P w S σ ev o a := by
  cases hp
  all_goals
    obtain ⟨v, e, h⟩ := hr.one_inv
    injection e with e; subst e
    have hx := h.p_inv.1
    refine ⟨_, ?_, .data _ _ (.p _ rfl)⟩
    subst_vars
    simp [execOp, ho, hx, Op.unary, Op.intArith]
theorem pu_conv {o : Oper} {s d : TypeId} {x : Operand} {k k0 : IntKind} {a : AV} {args : List AV} (ho : o.op = .convert s d x) (h1 : P.underlying s = some (.int k0)) (h2 : P.underlying d = some (.int k)) (hp : PuR P (.conv k) args a) (hr : Rps w S σ args [ev x]) : Val1 P w S σ ev o a := by
  cases hp
  obtain ⟨v, e, h⟩ := hr.one_inv
  injection e with e; subst e
  have hx := h.p_inv.1
  refine ⟨_, ?_, .data _ _ (.p _ rfl)⟩
  subst_vars
  simp [execOp, ho, hx, convert, run_underlying h1, run_underlying h2, Conv.intToInt]
theorem pu_same {o : Oper} {s d : TypeId} {x : Operand} {a : AV} {args : List AV} (ho : o.op = .convert s d x) (h1 : P.underlying s = some .string) (h2 : P.underlying d = some .string) (hp : PuR P .same args a) (hr : Rps w S σ args [ev x]) : Val1 P w S σ ev o a := by
  cases hp
  obtain ⟨v, e, h⟩ := hr.one_inv
  injection e with e; subst e
  have hx := h.p_inv.1
  refine ⟨_, ?_, .data _ _ (.p _ rfl)⟩
  subst_vars
  simp [execOp, ho, hx, convert, run_underlying h1, run_underlying h2]
theorem pu_len {o : Oper} {c : Call} {e : TypeId} {x : Operand} {ty : TypeId} {a : AV} {args : List AV} (ho : o.op = .call c) (hc : c.callee = .builtin .len) (h0 : c.argTypes[0]? = some ty) (h1 : P.underlying ty = some (.slice e)) (h2 : c.args.toList = [x])
    (hp : PuR P .len args a) (hr : Rps w S σ args [ev x]) : Val1 P w S σ ev o a := by
  have hx : c.args = #[x] := Array.toList_inj.1 h2
  have run : ∀ A n cc, ev x = .slice A n cc → (execOp ev o).run P w = .ok (.value (.int .i64 n)) w := by
    intro A n cc h
    simp [execOp, ho, resolve, hc, hx, invoke, builtin, Builtin.len_, h0, run_underlying h1, h, goInt]
  cases hp
  all_goals
    obtain ⟨v, e, h⟩ := hr.one_inv
    injection e with e; subst e
  · obtain ⟨A, cc, z, hv, _⟩ := h.dsl_inv.dsl_inv
    exact ⟨_, run _ _ _ hv, .data _ _ (.p _ rfl)⟩
  · obtain ⟨A, B, N, c, cc, hv, _⟩ := h.osl_inv
    exact ⟨_, run _ _ _ hv, .data _ _ (.p _ rfl)⟩
  · exact ⟨_, run _ _ _ h.p_inv.1, .data _ _ (.p _ rfl)⟩
theorem pu_cap {o : Oper} {c : Call} {e : TypeId} {x : Operand} {ty : TypeId} {a : AV} {args : List AV} (ho : o.op = .call c) (hc : c.callee = .builtin .cap) (h0 : c.argTypes[0]? = some ty) (h1 : P.underlying ty = some (.slice e)) (h2 : c.args.toList = [x])
    (hp : PuR P .cap args a) (hr : Rps w S σ args [ev x]) : Val1 P w S σ ev o a := by
  have hx : c.args = #[x] := Array.toList_inj.1 h2
  cases hp
  obtain ⟨v, e, h⟩ := hr.one_inv
  injection e with e; subst e
  refine ⟨_, ?_, .data _ _ (.p _ rfl)⟩
  simp [execOp, ho, resolve, hc, hx, invoke, builtin, Builtin.cap_, h0, run_underlying h1, h.p_inv.1, goInt]
theorem pu_mn {o : Oper} {c : Call} {x y : Operand} {a : AV} {args : List AV} (ho : o.op = .call c) (hc : c.callee = .builtin .min) (h2 : c.args.toList = [x, y])
    (hp : PuR P .mn args a) (hr : Rps w S σ args [ev x, ev y]) : Val1 P w S σ ev o a := by
  have hx : c.args = #[x, y] := Array.toList_inj.1 h2
  cases hp
  obtain ⟨v, u, e, h, k⟩ := hr.two_inv
  simp only [List.cons.injEq, and_true] at e
  obtain ⟨rfl, rfl⟩ := e
  refine ⟨_, ?_, .data _ _ (.p _ rfl)⟩
  simp [execOp, ho, resolve, hc, hx, invoke, builtin, Builtin.min_, Builtin.min2, h.p_inv.1, k.p_inv.1]
theorem pu_mx {o : Oper} {c : Call} {x y : Operand} {a : AV} {args : List AV} (ho : o.op = .call c) (hc : c.callee = .builtin .max) (h2 : c.args.toList = [x, y])
    (hp : PuR P .mx args a) (hr : Rps w S σ args [ev x, ev y]) : Val1 P w S σ ev o a := by
  have hx : c.args = #[x, y] := Array.toList_inj.1 h2
  cases hp
  obtain ⟨v, u, e, h, k⟩ := hr.two_inv
  simp only [List.cons.injEq, and_true] at e
  obtain ⟨rfl, rfl⟩ := e
  refine ⟨_, ?_, .data _ _ (.p _ rfl)⟩
  simp [execOp, ho, resolve, hc, hx, invoke, builtin, Builtin.max_, Builtin.max2, h.p_inv.1, k.p_inv.1]
theorem pu_slen {o : Oper} {c : Call} {x : Operand} {ty : TypeId} {a : AV} {args : List AV} (ho : o.op = .call c) (hc : c.callee = .builtin .len) (h0 : c.argTypes[0]? = some ty) (h1 : P.underlying ty = some .string) (h2 : c.args.toList = [x])
    (hp : PuR P .slen args a) (hr : Rps w S σ args [ev x]) : Val1 P w S σ ev o a := by
  have hx : c.args = #[x] := Array.toList_inj.1 h2
  cases hp
  obtain ⟨v, e, h⟩ := hr.one_inv
  injection e with e; subst e
  refine ⟨_, ?_, .data _ _ (.p _ rfl)⟩
  simp [execOp, ho, resolve, hc, hx, invoke, builtin, Builtin.len_, h0, run_underlying h1, h.p_inv.1, goInt]
theorem RpD.dsl_cut {sz : Nat} {xs : List (List AV)} {A : Option Addr} {n c : Nat} (h : RpD w S (.dsl sz xs) (.slice A n c)) (lo hi : Nat) (h1 : lo ≤ hi) (h2 : hi ≤ xs.length) :
    RpD w S (.dsl sz ((xs.drop lo).take (hi - lo))) (.slice (if c = lo then A else A.map (·.add (lo * sz))) (hi - lo) (c - lo)) := by
  obtain ⟨A', c', z, e, r1, r2, r3, r4, r5, r6⟩ := h.dsl_inv
  injection e with e1 e2 e3
  subst e1; subst e2; subst e3
  have hl : ((xs.drop lo).take (hi - lo)).length = hi - lo := by rw [List.length_take, List.length_drop]; omega
  have hel : ∀ (i : Nat) (e : List AV), ((xs.drop lo).take (hi - lo))[i]? = some e → i < hi - lo ∧ xs[lo + i]? = some e := by
    intro i e he
    rw [List.getElem?_take] at he
    split at he
    · rw [List.getElem?_drop] at he; exact ⟨‹_›, he⟩
    · cases he
  have := RpD.dsl (w := w) (S := S) sz ((xs.drop lo).take (hi - lo)) (if c = lo then A else A.map (·.add (lo * sz))) (c - lo) (fun i j => z (lo + i) j) (by rw [hl]; omega) (by omega) (fun e he => r3 e (List.mem_of_mem_drop (List.mem_of_mem_take he)))
    (fun i e j a he ha => by
      obtain ⟨hi', he'⟩ := hel i e he
      obtain ⟨g, o, rfl, hg, hc⟩ := r4 (lo + i) e j a he' ha
      rw [if_neg (by omega)]
      refine ⟨g, o + lo * sz, by simp [addr_add], hg, ?_⟩
      rw [show o + lo * sz + i * sz + j = o + (lo + i) * sz + j by rw [Nat.add_mul]; omega]
      exact hc)
    (fun i e j a he ha => r5 (lo + i) e j a (hel i e he).2 ha) (fun i j => r6 _ _)
  rwa [hl] at this
theorem run_slc {t e : TypeId} {j : TypeInfo} (h1 : P.underlying t = some (.slice e)) (h2 : P.info? e = some j) {A : Option Addr} {n c : Nat} (lo hi : Option Value) (l h : Nat) (hl : match lo with | none => l = 0 | some v => ∃ k, v = .int k l) (hh : match hi with | none => h = n | some v => ∃ k, v = .int k h) (hlh : l ≤ h) (hhc : h ≤ c) :
    (Instr.sliceAt t (.slice A n c) lo hi none).run P w = .ok (.slice (if c = l then A else A.map (·.add (l * j.size))) (h - l) (c - l)) w := by
  cases lo <;> cases hi <;> simp only at hl hh
  · subst hl; subst hh; simp [Instr.sliceAt, Instr.slice, Instr.sliceBounds, run_underlying h1, sizeOf, typeInfo, h2]
  · subst hl; obtain ⟨k, rfl⟩ := hh
    have : (h : Int) ≤ (c : Int) := by omega
    simp [Instr.sliceAt, Instr.slice, Instr.sliceBounds, Instr.sliceBound, asIntOf, run_underlying h1, sizeOf, typeInfo, h2, this, hlh, hhc]
  · obtain ⟨k, rfl⟩ := hl
    have : (l : Int) ≤ (h : Int) := by omega
    subst hh
    simp [Instr.sliceAt, Instr.slice, Instr.sliceBounds, Instr.sliceBound, asIntOf, run_underlying h1, sizeOf, typeInfo, h2, this, hlh, hhc]
  · obtain ⟨k, rfl⟩ := hl; obtain ⟨k', rfl⟩ := hh
    have a1 : (l : Int) ≤ (h : Int) := by omega
    have a2 : (h : Int) ≤ (c : Int) := by omega
    simp [Instr.sliceAt, Instr.slice, Instr.sliceBounds, Instr.sliceBound, asIntOf, run_underlying h1, sizeOf, typeInfo, h2, a1, a2, hlh, hhc]
theorem pu_slc {o : Oper} {t e : TypeId} {x : Operand} {lo hi : Option Operand} {j : TypeInfo} {a : AV} {args : List AV} (ho : o.op = .slice t x lo hi none) (h1 : P.underlying t = some (.slice e)) (h2 : P.info? e = some j) (hp : PuR P (.slc j.size lo.isSome hi.isSome) args a) (hr : Rps w S σ args ((x :: optL lo ++ optL hi).map ev)) : Val1 P w S σ ev o a := by
  have run : ∀ (xs : List (List AV)) (l h : Nat) (v : Value), ev x = v → RpD w S (.dsl j.size xs) v → (match lo.map ev with | none => l = 0 | some v => ∃ k, v = .int k l) → (match hi.map ev with | none => h = xs.length | some v => ∃ k, v = .int k h) → l ≤ h → h ≤ xs.length → Val1 P w S σ ev o (.dsl j.size ((xs.drop l).take (h - l))) := by
    intro xs l h v hx hD hl hh hlh hhx
    obtain ⟨A, c, z, rfl, r1, _⟩ := hD.dsl_inv
    refine ⟨_, ?_, .data _ _ (hD.dsl_cut l h hlh hhx)⟩
    have := run_slc (P := P) (w := w) h1 h2 (A := A) (n := xs.length) (c := c) (lo.map ev) (hi.map ev) l h hl hh hlh (by omega)
    simp [execOp, ho, hx, this]
  have own : ∀ (id off n l h : Nat) (v : Value), ev x = v → Rp w S σ (.osl id j.size off n) v → (match lo.map ev with | none => l = 0 | some v => ∃ k, v = .int k l) → (match hi.map ev with | none => h = n | some v => ∃ k, v = .int k h) → l ≤ h → h ≤ n → Val1 P w S σ ev o (.osl id j.size (off + l) (h - l)) := by
    intro id off n l h v hx hD hl hh hlh hhx
    obtain ⟨A, B, N, c, cc, rfl, hs, hle, hoc, hB⟩ := hD.osl_inv
    have := run_slc (P := P) (w := w) h1 h2 (A := B) (n := n) (c := cc) (lo.map ev) (hi.map ev) l h hl hh hlh (by omega)
    refine ⟨.slice (if cc = l then B else B.map (·.add (l * j.size))) (h - l) (cc - l), by simp [execOp, ho, hx, this], .osl _ _ _ _ A _ N c _ hs (by omega) (by omega) (fun hcc => ?_)⟩
    rw [if_neg (by omega), hB (by omega), Option.map_map]
    congr 1
    funext a
    show (a.add (off * j.size)).add (l * j.size) = _
    rw [add_of_add, Nat.add_mul]
  cases hlo : lo <;> cases hhi : hi <;> rw [hlo, hhi] at hp hr run own <;> simp only [Option.isSome] at hp <;> cases hp <;> simp only [optL, List.cons_append, List.nil_append, List.append_nil, List.map_cons, List.map_nil] at hr
  case slc_00 xs =>
    obtain ⟨v, e, h⟩ := hr.one_inv
    injection e with e; subst e
    have := run xs 0 xs.length _ rfl h.dsl_inv rfl rfl (by omega) (by omega)
    simpa using this
  case slo_00 id off n =>
    obtain ⟨v, e, h⟩ := hr.one_inv
    injection e with e; subst e
    exact own id off n 0 n _ rfl h rfl rfl (by omega) (by omega)
  case slc_nil k =>
    obtain ⟨v, u, e, q1, q2⟩ := hr.two_inv
    simp only [List.cons.injEq, and_true] at e
    obtain ⟨rfl, rfl⟩ := e
    have := run_slc (P := P) (w := w) h1 h2 (A := none) (n := 0) (c := 0) none (some (.int k 0)) 0 0 rfl ⟨k, rfl⟩ (by omega) (by omega)
    refine ⟨.slice none 0 0, ?_, .data _ _ (.p _ rfl)⟩
    simp [execOp, ho, hlo, hhi, q1.p_inv.1, q2.p_inv.1, this]
  case slc_01 xs k hi' g0 g1 =>
    obtain ⟨v, u, e, q1, q2⟩ := hr.two_inv
    simp only [List.cons.injEq, and_true] at e
    obtain ⟨rfl, rfl⟩ := e
    have := run xs 0 hi'.toNat _ rfl q1.dsl_inv rfl ⟨k, by rw [q2.p_inv.1, Int.toNat_of_nonneg g0]⟩ (by omega) (by omega)
    simpa using this
  case slo_01 id off n k hi' g0 g1 =>
    obtain ⟨v, u, e, q1, q2⟩ := hr.two_inv
    simp only [List.cons.injEq, and_true] at e
    obtain ⟨rfl, rfl⟩ := e
    exact own id off n 0 hi'.toNat _ rfl q1 rfl ⟨k, by rw [q2.p_inv.1, Int.toNat_of_nonneg g0]⟩ (by omega) (by omega)
  case slc_10 xs k lo' g0 g1 =>
    obtain ⟨v, u, e, q1, q2⟩ := hr.two_inv
    simp only [List.cons.injEq, and_true] at e
    obtain ⟨rfl, rfl⟩ := e
    have := run xs lo'.toNat xs.length _ rfl q1.dsl_inv ⟨k, by rw [q2.p_inv.1, Int.toNat_of_nonneg g0]⟩ rfl (by omega) (by omega)
    rwa [List.take_of_length_le (by rw [List.length_drop]; omega)] at this
  case slo_10 id off n k lo' g0 g1 =>
    obtain ⟨v, u, e, q1, q2⟩ := hr.two_inv
    simp only [List.cons.injEq, and_true] at e
    obtain ⟨rfl, rfl⟩ := e
    exact own id off n lo'.toNat n _ rfl q1 ⟨k, by rw [q2.p_inv.1, Int.toNat_of_nonneg g0]⟩ rfl (by omega) (by omega)
  case slc_11 xs k k' lo' hi' g0 g1 g2 =>
    obtain ⟨v, u, y, e, q1, q2, q3⟩ := hr.three_inv
    simp only [List.cons.injEq, and_true] at e
    obtain ⟨rfl, rfl, rfl⟩ := e
    exact run xs lo'.toNat hi'.toNat _ rfl q1.dsl_inv ⟨k, by rw [q2.p_inv.1, Int.toNat_of_nonneg g0]⟩ ⟨k', by rw [q3.p_inv.1, Int.toNat_of_nonneg (by omega)]⟩ (by omega) (by omega)
  case slo_11 id off n k k' lo' hi' g0 g1 g2 =>
    obtain ⟨v, u, y, e, q1, q2, q3⟩ := hr.three_inv
    simp only [List.cons.injEq, and_true] at e
    obtain ⟨rfl, rfl, rfl⟩ := e
    exact own id off n lo'.toNat hi'.toNat _ rfl q1 ⟨k, by rw [q2.p_inv.1, Int.toNat_of_nonneg g0]⟩ ⟨k', by rw [q3.p_inv.1, Int.toNat_of_nonneg (by omega)]⟩ (by omega) (by omega)
theorem run_ssl {t : TypeId} (h1 : P.underlying t = some .string) {s : ByteArray} (lo hi : Option Value) (l h : Nat) (hl : match lo with | none => l = 0 | some v => ∃ k, v = .int k l) (hh : match hi with | none => h = s.size | some v => ∃ k, v = .int k h) (hlh : l ≤ h) (hhc : h ≤ s.size) :
    (Instr.sliceAt t (.string s) lo hi none).run P w = .ok (.string (s.extract l h)) w := by
  cases lo <;> cases hi <;> simp only at hl hh
  · subst hl; subst hh; simp [Instr.sliceAt, Instr.slice, Instr.sliceBounds, run_underlying h1]
  · subst hl; obtain ⟨k, rfl⟩ := hh
    have : (h : Int) ≤ (s.size : Int) := by omega
    simp [Instr.sliceAt, Instr.slice, Instr.sliceBounds, Instr.sliceBound, asIntOf, run_underlying h1, this, hlh, hhc]
  · subst hh; obtain ⟨k, rfl⟩ := hl
    have : (l : Int) ≤ (s.size : Int) := by omega
    simp [Instr.sliceAt, Instr.slice, Instr.sliceBounds, Instr.sliceBound, asIntOf, run_underlying h1, this, hlh, hhc]
  · obtain ⟨k, rfl⟩ := hl; obtain ⟨k', rfl⟩ := hh
    have a1 : (l : Int) ≤ (h : Int) := by omega
    have a2 : (h : Int) ≤ (s.size : Int) := by omega
    simp [Instr.sliceAt, Instr.slice, Instr.sliceBounds, Instr.sliceBound, asIntOf, run_underlying h1, a1, a2, hlh, hhc]
theorem pu_ssl {o : Oper} {t : TypeId} {x : Operand} {lo hi : Option Operand} {a : AV} {args : List AV} (ho : o.op = .slice t x lo hi none) (h1 : P.underlying t = some .string) (hp : PuR P (.ssl lo.isSome hi.isSome) args a) (hr : Rps w S σ args ((x :: optL lo ++ optL hi).map ev)) : Val1 P w S σ ev o a := by
  have run : ∀ (s : ByteArray) (l h : Nat), ev x = .string s → (match lo.map ev with | none => l = 0 | some v => ∃ k, v = .int k l) → (match hi.map ev with | none => h = s.size | some v => ∃ k, v = .int k h) → l ≤ h → h ≤ s.size → Val1 P w S σ ev o (.p (.string (s.extract l h))) := by
    intro s l h hx hl hh hlh hhx
    refine ⟨_, ?_, .data _ _ (.p _ rfl)⟩
    have := run_ssl (P := P) (w := w) h1 (s := s) (lo.map ev) (hi.map ev) l h hl hh hlh hhx
    simp [execOp, ho, hx, this]
  cases hlo : lo <;> cases hhi : hi <;> rw [hlo, hhi] at hp hr run <;> simp only [Option.isSome] at hp <;> cases hp <;> simp only [optL, List.cons_append, List.nil_append, List.append_nil, List.map_cons, List.map_nil] at hr
  · obtain ⟨v, e, h⟩ := hr.one_inv
    injection e with e; subst e
    exact run _ 0 _ h.p_inv.1 rfl rfl (by omega) (by omega)
  · rename_i s k hi' g0 g1
    obtain ⟨v, u, e, q1, q2⟩ := hr.two_inv
    simp only [List.cons.injEq, and_true] at e
    obtain ⟨rfl, rfl⟩ := e
    exact run s 0 hi'.toNat q1.p_inv.1 rfl ⟨k, by rw [q2.p_inv.1, Int.toNat_of_nonneg g0]⟩ (by omega) (by omega)
  · rename_i s k lo' g0 g1
    obtain ⟨v, u, e, q1, q2⟩ := hr.two_inv
    simp only [List.cons.injEq, and_true] at e
    obtain ⟨rfl, rfl⟩ := e
    exact run s lo'.toNat s.size q1.p_inv.1 ⟨k, by rw [q2.p_inv.1, Int.toNat_of_nonneg g0]⟩ rfl (by omega) (by omega)
  · rename_i s k k' lo' hi' g0 g1 g2
    obtain ⟨v, u, y, e, q1, q2, q3⟩ := hr.three_inv
    simp only [List.cons.injEq, and_true] at e
    obtain ⟨rfl, rfl, rfl⟩ := e
    exact run s lo'.toNat hi'.toNat q1.p_inv.1 ⟨k, by rw [q2.p_inv.1, Int.toNat_of_nonneg g0]⟩ ⟨k', by rw [q3.p_inv.1, Int.toNat_of_nonneg (by omega)]⟩ (by omega) (by omega)
theorem pu_sidx {o : Oper} {t : TypeId} {x i : Operand} {a : AV} {args : List AV} (ho : o.op = .index t x i) (h1 : P.underlying t = some .string) (hp : PuR P .sidx args a) (hr : Rps w S σ args [ev x, ev i]) : Val1 P w S σ ev o a := by
  cases hp with
  | sidx s k i b h0 hb =>
    obtain ⟨v, u, e, q1, q2⟩ := hr.two_inv
    simp only [List.cons.injEq, and_true] at e
    obtain ⟨rfl, rfl⟩ := e
    have hx := q1.p_inv.1
    have hy := q2.p_inv.1
    refine ⟨_, ?_, .data _ _ (.p _ rfl)⟩
    simp [execOp, ho, hx, hy, Instr.index, asIntOf, run_underlying h1, h0, hb]
theorem pu_mkfn {o : Oper} {f : Fn} {xs ys : Array Operand} {a : AV} {args : List AV} (ho : o.op = .makeFunc f xs ys) (hp : PuR P (.mkfn f xs.size) args a) (hr : Rps w S σ args ((xs.toList ++ ys.toList).map ev)) : Val1 P w S σ ev o a := by
  cases hp with
  | mkfn _ _ _ hle =>
    refine ⟨.func f (xs.map ev) (ys.map ev), by simp [execOp, ho, Instr.makeFunc], ?_⟩
    have hl : args.length = xs.size + ys.size := by rw [hr.1]; simp
    have h1 : Rps w S σ (args.take xs.size) (xs.map ev).toList := by
      have := hr.take xs.size
      rw [List.map_append, List.take_left' (by simp), ← Array.toList_map] at this
      exact this
    have h2 : Rps w S σ (args.drop xs.size) (ys.map ev).toList := by
      have := hr.drop xs.size
      rw [List.map_append, List.drop_left' (by simp), ← Array.toList_map] at this
      exact this
    exact .fn f _ _ _ _ (by simpa using h1.1) (by simpa using h2.1) (fun i a v ha hv => h1.2 i a v ha (by simpa using hv)) (fun i a v ha hv => h2.2 i a v ha (by simpa using hv))
end
end Go.Proofs.Ytaepnmnoofigjaa
