/- Abstract memory against the model's memory: when it stands, what keeps it, what changes it. Nothing of the program is named here. -/
import Derived.Test.YtcmnjoepadjioaaAw1
import Derived.Test.YtcmnjoepadjioaaMapO
namespace Go.Proofs.Ytcmnjoepadjioaa
open Go.RowKit

def blkOf : Value → Option Nat
  | .pointer (some a) => some a.block
  | .slice (some a) _ _ => some a.block
  | .map (some g) => some g
  | _ => none
def AO.owned : AO → Bool
  | .frz .. => false
  | .dead => false
  | _ => true
def ObjOk (P : Program) (w : World) (S : Nat → Prop) (σ : Nat → Option Value) (id : Nat) : AO → Prop
  | .box t cs => ∃ g arr, σ id = some (.pointer (some ⟨g, 0, none⟩)) ∧ Blk w g t arr ∧ Rps w S σ cs arr.toList ∧ ∀ u ∈ arr, u.oneCell' = true
  | .row t sz es => ∃ A c, σ id = some (.slice A es.length c) ∧ (∀ e ∈ es, e.length = sz) ∧ es.length ≤ c ∧ c ≤ maxLen ∧ ((A = none ∧ c = 0) ∨
      ∃ g o arr, A = some ⟨g, o, none⟩ ∧ Blk w g t arr ∧ o + c * sz ≤ arr.size ∧ (∀ u ∈ arr, u.oneCell' = true) ∧
        ∀ (i : Nat) (e : List AV) (j : Nat) (a : AV), es[i]? = some e → e[j]? = some a → ∃ v, arr[o + i * sz + j]? = some v ∧ Rp w S σ a v)
  | .frz sz es => ∃ A c, σ id = some (.slice A es.length c) ∧ RpD w S (.dsl sz es) (.slice A es.length c)
  | .map kt n f => ∃ g f', σ id = some (.map (some g)) ∧ MapOf P kt w g n f' ∧ ∀ k, (f k = none ∧ f' k = none) ∨ ∃ a v, f k = some a ∧ f' k = some v ∧ Rp w S σ a v
  | .siter s pos => ∃ g, σ id = some (.pointer (some ⟨g, 0, none⟩)) ∧ w.heap[g]? = some (.stringIter s pos)
  | .dead => (σ id).isSome = true
theorem MapOf.keep {P : Program} {k : TypeId} {w w' : World} {b n : Nat} {f : Value → Option Value} (h : MapOf P k w b n f) (hb : w'.heap[b]? = w.heap[b]?) : MapOf P k w' b n f := by
  obtain ⟨D, ⟨es, clock, hm, h1, h2, h3⟩, hf⟩ := h
  exact ⟨D, ⟨es, clock, hb.trans hm, h1, h2, h3⟩, hf⟩

section
variable {P : Program} {w w' : World} {S S' : Nat → Prop} {σ σ' : Nat → Option Value} {id : Nat} {o : AO} {H H' : AH}
theorem ObjOk.mono (h : ObjOk P w S σ id o) (hs : ∀ b, S b → S' b) (hw : ∀ b, S b → w'.heap[b]? = w.heap[b]?) (hg : ∀ id u, σ id = some u → σ' id = some u)
    (hb : o.owned = true → ∀ b, (σ id).bind blkOf = some b → w'.heap[b]? = w.heap[b]?) : ObjOk P w' S' σ' id o := by
  cases o with
  | box t cs =>
    obtain ⟨g, arr, h1, h2, h3, h4⟩ := h
    exact ⟨g, arr, hg _ _ h1, (hb rfl g (by rw [h1]; rfl)).trans h2, h3.mono hs hw hg, h4⟩
  | row t sz es =>
    obtain ⟨A, c, h1, h2, h3, h4, h5⟩ := h
    refine ⟨A, c, hg _ _ h1, h2, h3, h4, ?_⟩
    rcases h5 with h5 | ⟨g, o, arr, rfl, k1, k2, k3, k4⟩
    · exact .inl h5
    · refine .inr ⟨g, o, arr, rfl, (hb rfl g (by rw [h1]; rfl)).trans k1, k2, k3, fun i e j a he ha => ?_⟩
      obtain ⟨v, hv, hr⟩ := k4 i e j a he ha
      exact ⟨v, hv, hr.mono hs hw hg⟩
  | frz sz es =>
    obtain ⟨A, c, h1, h2⟩ := h
    exact ⟨A, c, hg _ _ h1, h2.mono hs hw⟩
  | map kt n f =>
    obtain ⟨g, f', h1, h2, h3⟩ := h
    refine ⟨g, f', hg _ _ h1, h2.keep (hb rfl g (by rw [h1]; rfl)), fun k => ?_⟩
    rcases h3 k with h3 | ⟨a, v, q1, q2, q3⟩
    · exact .inl h3
    · exact .inr ⟨a, v, q1, q2, q3.mono hs hw hg⟩
  | siter s pos =>
    obtain ⟨g, h1, h2⟩ := h
    exact ⟨g, hg _ _ h1, (hb rfl g (by rw [h1]; rfl)).trans h2⟩
  | dead =>
    obtain ⟨u, hu⟩ := Option.isSome_iff_exists.1 h
    show (σ' id).isSome = true
    rw [hg _ _ hu]; rfl
structure Sat (P : Program) (w : World) (S : Nat → Prop) (σ : Nat → Option Value) (H : AH) : Prop where
  sb : ∀ b, S b → b < w.heap.size
  dom : ∀ id u, σ id = some u → id < H.nx
  obj : ∀ id o, H.get id = some o → ObjOk P w S σ id o
  dj : ∀ i j o o' b, H.get i = some o → H.get j = some o' → o.owned = true → o'.owned = true → (σ i).bind blkOf = some b → (σ j).bind blkOf = some b → i = j
  sep : ∀ i o b, H.get i = some o → o.owned = true → (σ i).bind blkOf = some b → ¬ S b
  sl : ∀ i A n c, σ i = some (.slice A n c) → n ≤ c ∧ (0 < c → ∃ g o, A = some ⟨g, o, none⟩) ∧ c ≤ maxLen
def Foot (σ : Nat → Option Value) (H : AH) (b : Nat) : Prop := ∃ id o, H.get id = some o ∧ o.owned = true ∧ (σ id).bind blkOf = some b
structure Ext (w : World) (S : Nat → Prop) (σ : Nat → Option Value) (H : AH) (w' : World) (S' : Nat → Prop) (σ' : Nat → Option Value) (H' : AH) : Prop where
  os : w'.os = w.os
  tape : w'.tape = w.tape
  output : w'.output = w.output
  size : w.heap.size ≤ w'.heap.size
  keep : ∀ b, b < w.heap.size → ¬ Foot σ H b → w'.heap[b]? = w.heap[b]?
  sup : ∀ b, S b → S' b
  sub : ∀ b, S' b → S b ∨ Foot σ H b ∨ w.heap.size ≤ b
  foot : ∀ b, Foot σ' H' b → Foot σ H b ∨ w.heap.size ≤ b
  sig : ∀ id u, σ id = some u → σ' id = some u
theorem Sat.notS (h : Sat P w S σ H) {b : Nat} (hb : S b) : ¬ Foot σ H b := fun ⟨i, o, h1, h2, h3⟩ => h.sep i o b h1 h2 h3 hb
theorem Ext.S_keep (e : Ext w S σ H w' S' σ' H') (h : Sat P w S σ H) : ∀ b, S b → w'.heap[b]? = w.heap[b]? := fun b hb => e.keep b (h.sb b hb) (h.notS hb)
theorem Ext.rp (e : Ext w S σ H w' S' σ' H') (h : Sat P w S σ H) {a : AV} {v : Value} (hr : Rp w S σ a v) : Rp w' S' σ' a v := hr.mono e.sup (e.S_keep h) e.sig
theorem Ext.rps (e : Ext w S σ H w' S' σ' H') (h : Sat P w S σ H) {a : List AV} {v : List Value} (hr : Rps w S σ a v) : Rps w' S' σ' a v := hr.mono e.sup (e.S_keep h) e.sig
theorem Ext.refl (w : World) (S : Nat → Prop) (σ : Nat → Option Value) (H : AH) : Ext w S σ H w S σ H :=
  ⟨rfl, rfl, rfl, Nat.le_refl _, fun _ _ _ => rfl, fun _ h => h, fun _ h => .inl h, fun _ h => .inl h, fun _ _ h => h⟩
theorem Ext.trans {w2 : World} {S2 : Nat → Prop} {σ2 : Nat → Option Value} {H2 : AH} (e : Ext w S σ H w' S' σ' H') (f : Ext w' S' σ' H' w2 S2 σ2 H2) : Ext w S σ H w2 S2 σ2 H2 where
  os := f.os.trans e.os
  tape := f.tape.trans e.tape
  output := f.output.trans e.output
  size := Nat.le_trans e.size f.size
  keep b hb hn := by
    refine (f.keep b (Nat.lt_of_lt_of_le hb e.size) (fun hf => ?_)).trans (e.keep b hb hn)
    rcases e.foot b hf with h | h
    · exact hn h
    · omega
  sup b hb := f.sup b (e.sup b hb)
  sub b hb := by
    rcases f.sub b hb with h | h | h
    · exact e.sub b h
    · exact .inr (e.foot b h)
    · exact .inr (.inr (Nat.le_trans e.size h))
  foot b hb := by
    rcases f.foot b hb with h | h
    · exact e.foot b h
    · exact .inr (Nat.le_trans e.size h)
  sig id u h := f.sig id u (e.sig id u h)
theorem Sat.congr (h : Sat P w S σ H) (hg : ∀ id, H'.get id = H.get id) (hn : H.nx ≤ H'.nx) : Sat P w S σ H' where
  sb := h.sb
  dom id u hu := Nat.lt_of_lt_of_le (h.dom id u hu) hn
  obj id o ho := h.obj id o (by rw [← hg]; exact ho)
  dj i j o o' b h1 h2 := h.dj i j o o' b (by rw [← hg]; exact h1) (by rw [← hg]; exact h2)
  sep i o b h1 := h.sep i o b (by rw [← hg]; exact h1)
  sl := h.sl
/-- some of it is let go -/
theorem Sat.less (h : Sat P w S σ H) (hg : ∀ id o, H'.get id = some o → H.get id = some o) (hn : H.nx ≤ H'.nx) : Sat P w S σ H' where
  sb := h.sb
  dom id u hu := Nat.lt_of_lt_of_le (h.dom id u hu) hn
  obj id o ho := h.obj id o (hg _ _ ho)
  dj i j o o' b h1 h2 := h.dj i j o o' b (hg _ _ h1) (hg _ _ h2)
  sep i o b h1 := h.sep i o b (hg _ _ h1)
  sl := h.sl
theorem Foot.less (hg : ∀ id o, H'.get id = some o → H.get id = some o) {b : Nat} (h : Foot σ H' b) : Foot σ H b := by
  obtain ⟨i, o, h1, h2, h3⟩ := h; exact ⟨i, o, hg _ _ h1, h2, h3⟩
theorem AH.get_put_self {H : AH} {k : Nat} {o : AO} : (H.put k o).get k = some o := lget_lput_self
theorem AH.get_put_ne {H : AH} {k j : Nat} {o : AO} (h : j ≠ k) : (H.put k o).get j = H.get j := lget_lput_ne h
theorem AH.get_del_self {H : AH} {k : Nat} : (H.del k).get k = none := lget_ldel_self
theorem AH.get_del_ne {H : AH} {k j : Nat} (h : j ≠ k) : (H.del k).get j = H.get j := lget_ldel_ne h
theorem AH.get_del {H : AH} {k j : Nat} {o : AO} (h : (H.del k).get j = some o) : H.get j = some o ∧ j ≠ k := by
  by_cases e : j = k
  · subst e; rw [AH.get_del_self] at h; cases h
  · rw [AH.get_del_ne e] at h; exact ⟨h, e⟩
theorem AH.kill_get {H : AH} {k j : Nat} {o : AO} (h : (H.kill k).get j = some o) (ho : o.owned = true) : H.get j = some o ∧ j ≠ k := by
  by_cases e : j = k
  · subst e; unfold AH.kill at h; rw [AH.get_put_self] at h; injection h with h; subst h; cases ho
  · unfold AH.kill at h; rw [AH.get_put_ne e] at h; exact ⟨h, e⟩
theorem Sat.kill (h : Sat P w S σ H) {k : Nat} {o : AO} (hk : H.get k = some o) : Sat P w S σ (H.kill k) where
  sb := h.sb
  dom := h.dom
  obj id o2 ho := by
    by_cases e : id = k
    · subst e
      unfold AH.kill at ho; rw [AH.get_put_self] at ho; injection ho with ho; subst ho
      show (σ id).isSome = true
      have := h.obj id o hk
      cases o with
      | box t cs => obtain ⟨g, arr, h1, _⟩ := this; rw [h1]; rfl
      | row t sz es => obtain ⟨A, c, h1, _⟩ := this; rw [h1]; rfl
      | frz sz es => obtain ⟨A, c, h1, _⟩ := this; rw [h1]; rfl
      | map kt m f => obtain ⟨g, f', h1, _⟩ := this; rw [h1]; rfl
      | siter s p => obtain ⟨g, h1, _⟩ := this; rw [h1]; rfl
      | dead => exact this
    · unfold AH.kill at ho; rw [AH.get_put_ne e] at ho; exact h.obj id o2 ho
  dj i j o o' b h1 h2 k1 k2 := h.dj i j o o' b (AH.kill_get h1 k1).1 (AH.kill_get h2 k2).1 k1 k2
  sep i o b h1 k1 := h.sep i o b (AH.kill_get h1 k1).1 k1
  sl := h.sl
theorem Foot.kill {k b : Nat} (h : Foot σ (H.kill k) b) : Foot σ H b := by
  obtain ⟨i, o, h1, h2, h3⟩ := h; exact ⟨i, o, (AH.kill_get h1 h2).1, h2, h3⟩
def sput (σ : Nat → Option Value) (k : Nat) (u : Value) : Nat → Option Value := fun i => if i = k then some u else σ i
theorem sput_ext {k : Nat} {u : Value} (h : ∀ x, σ k = some x → x = u) : ∀ id x, σ id = some x → sput σ k u id = some x := by
  intro id x hx
  unfold sput
  by_cases e : id = k
  · subst e; rw [if_pos rfl, h x hx]
  · rw [if_neg e]; exact hx
theorem sput_self {k : Nat} {u : Value} : sput σ k u k = some u := by unfold sput; rw [if_pos rfl]
theorem sput_ne {k j : Nat} {u : Value} (h : j ≠ k) : sput σ k u j = σ j := by unfold sput; rw [if_neg h]
/-- one thing is laid, or changed -/
theorem Sat.upd (h : Sat P w S σ H) {k : Nat} {o' : AO} {u : Value} (hk : k < H.nx) (hσ : ∀ x, σ k = some x → x = u)
    (hsz : w.heap.size ≤ w'.heap.size) (hkeep : ∀ b, b < w.heap.size → blkOf u ≠ some b → w'.heap[b]? = w.heap[b]?)
    (hfree : ∀ b, blkOf u = some b → ¬ S b ∧ ∀ j o, j ≠ k → H.get j = some o → o.owned = true → (σ j).bind blkOf ≠ some b)
    (hobj : ObjOk P w' S (sput σ k u) k o') (hlt : ∀ j o b, H.get j = some o → o.owned = true → (σ j).bind blkOf = some b → b < w.heap.size) (hsl : ∀ A n c, u = .slice A n c → n ≤ c ∧ (0 < c → ∃ g o, A = some ⟨g, o, none⟩) ∧ c ≤ maxLen) : Sat P w' S (sput σ k u) (H.put k o') := by
  have hS : ∀ b, S b → w'.heap[b]? = w.heap[b]? := fun b hb => hkeep b (h.sb b hb) (fun e => (hfree b e).1 hb)
  refine ⟨fun b hb => Nat.lt_of_lt_of_le (h.sb b hb) hsz, fun id x hx => ?_, fun id o ho => ?_, fun i j o o2 b h1 h2 k1 k2 q1 q2 => ?_, fun i o b h1 k1 q1 => ?_, fun i A n c hi => ?_⟩
  · by_cases e : id = k
    · subst e; exact hk
    · rw [sput_ne e] at hx; exact h.dom id x hx
  · by_cases e : id = k
    · subst e; rw [AH.get_put_self] at ho; injection ho with ho; subst ho; exact hobj
    · rw [AH.get_put_ne e] at ho
      refine (h.obj id o ho).mono (fun _ hb => hb) hS (sput_ext hσ) (fun how b hb => hkeep b (hlt id o b ho how hb) (fun e2 => ?_))
      exact (hfree b e2).2 id o e ho how hb
  · by_cases e : i = k <;> by_cases e' : j = k
    · rw [e, e']
    · subst e
      rw [sput_self] at q1
      rw [AH.get_put_ne e'] at h2
      rw [sput_ne e'] at q2
      exact absurd q2 ((hfree b q1).2 j o2 e' h2 k2)
    · subst e'
      rw [sput_self] at q2
      rw [AH.get_put_ne e] at h1
      rw [sput_ne e] at q1
      exact absurd q1 ((hfree b q2).2 i o e h1 k1)
    · rw [AH.get_put_ne e] at h1
      rw [AH.get_put_ne e'] at h2
      rw [sput_ne e] at q1
      rw [sput_ne e'] at q2
      exact h.dj i j o o2 b h1 h2 k1 k2 q1 q2
  · by_cases e : i = k
    · subst e
      rw [sput_self] at q1
      exact (hfree b q1).1
    · rw [AH.get_put_ne e] at h1
      rw [sput_ne e] at q1
      exact h.sep i o b h1 k1 q1
  · by_cases e : i = k
    · subst e; rw [sput_self] at hi; injection hi with hi; exact hsl A n c hi
    · rw [sput_ne e] at hi; exact h.sl i A n c hi
theorem heap_lt {w : World} {b : Nat} {o : Obj} (h : w.heap[b]? = some o) : b < w.heap.size := by
  rcases Nat.lt_or_ge b w.heap.size with h1 | h1
  · exact h1
  · rw [Array.getElem?_eq_none h1] at h; cases h
theorem ObjOk.lt (h : ObjOk P w S σ id o) (ho : o.owned = true) {b : Nat} (hb : (σ id).bind blkOf = some b) : b < w.heap.size := by
  cases o with
  | box t cs =>
    obtain ⟨g, arr, h1, h2, _⟩ := h
    rw [h1] at hb; simp [blkOf] at hb; subst hb; exact h2.lt
  | row t sz es =>
    obtain ⟨A, c, h1, h2, h3, h4, h5⟩ := h
    rw [h1] at hb
    rcases h5 with ⟨rfl, _⟩ | ⟨g, o, arr, rfl, k1, _⟩
    · simp [blkOf] at hb
    · simp [blkOf] at hb; subst hb; exact k1.lt
  | frz sz es => cases ho
  | map kt n f =>
    obtain ⟨g, f', h1, h2, _⟩ := h
    rw [h1] at hb; simp [blkOf] at hb; subst hb; exact h2.lt
  | siter s pos =>
    obtain ⟨g, h1, h2⟩ := h
    rw [h1] at hb; simp [blkOf] at hb; subst hb; exact heap_lt h2
  | dead => cases ho
theorem Sat.lt (h : Sat P w S σ H) {j : Nat} {b : Nat} {o : AO} (h1 : H.get j = some o) (h2 : o.owned = true) (h3 : (σ j).bind blkOf = some b) : b < w.heap.size := (h.obj j o h1).lt h2 h3
theorem Foot.lt (h : Foot σ H id) (hs : Sat P w S σ H) : id < w.heap.size := by obtain ⟨j, o, h1, h2, h3⟩ := h; exact hs.lt h1 h2 h3
/-- the world's memory alone counts -/
theorem Rp.world {w w' : World} {a : AV} {v : Value} (h : Rp w S σ a v) (hw : w'.heap = w.heap) : Rp w' S σ a v := h.mono (fun _ h => h) (fun b _ => by rw [hw]) (fun _ _ h => h)
theorem Sat.world (h : Sat P w S σ H) (hw : w'.heap = w.heap) : Sat P w' S σ H where
  sb b hb := by rw [hw]; exact h.sb b hb
  dom := h.dom
  obj id o ho := (h.obj id o ho).mono (fun _ h => h) (fun b _ => by rw [hw]) (fun _ _ h => h) (fun _ b _ => by rw [hw])
  dj := h.dj
  sep := h.sep
  sl := h.sl
theorem Ext.draw (w : World) (S : Nat → Prop) (σ : Nat → Option Value) (H : AH) (n : Nat) : Ext w S σ H (w.drewN n) S σ H :=
  ⟨rfl, rfl, rfl, Nat.le_refl _, fun _ _ _ => rfl, fun _ h => h, fun _ h => .inl h, fun _ h => .inl h, fun _ _ h => h⟩
/-- one thing is laid, or changed: what is gained -/
theorem Ext.upd (h : Sat P w S σ H) {k : Nat} {o' : AO} {u : Value} (hσ : ∀ x, σ k = some x → x = u) (hos : w'.os = w.os) (htape : w'.tape = w.tape) (hout : w'.output = w.output)
    (hsz : w.heap.size ≤ w'.heap.size) (hkeep : ∀ b, b < w.heap.size → blkOf u ≠ some b → w'.heap[b]? = w.heap[b]?)
    (hb : ∀ b, blkOf u = some b → Foot σ H b ∨ w.heap.size ≤ b) : Ext w S σ H w' S (sput σ k u) (H.put k o') where
  os := hos
  tape := htape
  output := hout
  size := hsz
  keep b hlt hn := hkeep b hlt (fun e => by
    rcases hb b e with h | h
    · exact hn h
    · omega)
  sup _ h := h
  sub _ h := .inl h
  foot b := by
    rintro ⟨i, o, h1, h2, h3⟩
    by_cases e : i = k
    · subst e; rw [sput_self] at h3; exact hb b h3
    · rw [AH.get_put_ne e] at h1; rw [sput_ne e] at h3; exact .inl ⟨i, o, h1, h2, h3⟩
  sig := sput_ext hσ
end
end Go.Proofs.Ytcmnjoepadjioaa
