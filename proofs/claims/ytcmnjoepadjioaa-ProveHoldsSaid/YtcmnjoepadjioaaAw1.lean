/- Abstract values and abstract memory: what values and blocks of the model's memory stand for. Nothing of the program is named here. -/
import Derived.Test.YtcmnjoepadjioaaWords
namespace Go.Proofs.Ytcmnjoepadjioaa
open Go.RowKit

/-- what a value stands for -/
inductive AV where
  | any
  | p (v : Value)
  | agg (cs : List AV)
  | tup (cs : List AV)
  | dsl (sz : Nat) (xs : List (List AV))
  | dptr (sz : Nat) (xs : List (List AV)) (i j : Nat)
  | ptr (id off : Nat)
  | eptr (id sz i j : Nat)
  | osl (id sz off n : Nat)
  | mp (id : Nat)
  | fn (f : Fn) (first captured : List AV)
/-- what a block stands for -/
inductive AO where
  | box (t : TypeId) (cs : List AV)
  | row (t : TypeId) (sz : Nat) (es : List (List AV))
  | frz (sz : Nat) (es : List (List AV))
  | map (kt : TypeId) (n : Nat) (f : Value → Option AV)
  | siter (s : ByteArray) (pos : Nat)
  | dead
structure AH where
  nx : Nat
  l : List (Nat × AO)
def lget : List (Nat × AO) → Nat → Option AO
  | [], _ => none
  | (i, o) :: r, k => if i = k then some o else lget r k
def lput : List (Nat × AO) → Nat → AO → List (Nat × AO)
  | [], k, o => [(k, o)]
  | (i, x) :: r, k, o => if k < i then (k, o) :: (i, x) :: r else if k = i then (k, o) :: r else (i, x) :: lput r k o
def ldel : List (Nat × AO) → Nat → List (Nat × AO)
  | [], _ => []
  | (i, x) :: r, k => if i = k then ldel r k else (i, x) :: ldel r k
def AH.get (H : AH) (k : Nat) : Option AO := lget H.l k
def AH.put (H : AH) (k : Nat) (o : AO) : AH := ⟨H.nx, lput H.l k o⟩
def AH.del (H : AH) (k : Nat) : AH := ⟨H.nx, ldel H.l k⟩
def AH.kill (H : AH) (k : Nat) : AH := H.put k .dead
def AH.up (H : AH) (n : Nat) : AH := ⟨H.nx + n, H.l⟩

theorem lget_lput_ne {l : List (Nat × AO)} {k j : Nat} {o : AO} (h : j ≠ k) : lget (lput l k o) j = lget l j := by
  induction l with
  | nil => simp [lput, lget]; omega
  | cons a r ih =>
    obtain ⟨i, x⟩ := a
    unfold lput
    split
    · simp [lget]; omega
    · split
      · rename_i _ h2; subst h2; simp [lget]; rw [if_neg (by omega), if_neg (by omega)]
      · simp only [lget, ih]
theorem lget_ldel_ne {l : List (Nat × AO)} {k j : Nat} (h : j ≠ k) : lget (ldel l k) j = lget l j := by
  induction l with
  | nil => rfl
  | cons a r ih =>
    obtain ⟨i, x⟩ := a
    unfold ldel
    split
    · rename_i h2; subst h2; rw [ih]; simp only [lget]; rw [if_neg (fun e => h e.symm)]
    · simp only [lget, ih]
theorem lget_ldel_self {l : List (Nat × AO)} {k : Nat} : lget (ldel l k) k = none := by
  induction l with
  | nil => rfl
  | cons a r ih =>
    obtain ⟨i, x⟩ := a
    unfold ldel
    split
    · exact ih
    · rename_i h2; simp only [lget]; rw [if_neg h2]; exact ih
/-- each number stands below those behind it -/
def sortedL : List (Nat × AO) → Prop
  | [] => True
  | (i, _) :: r => (∀ k, k ≤ i → lget r k = none) ∧ sortedL r
theorem lget_lput_self {l : List (Nat × AO)} {k : Nat} {o : AO} : lget (lput l k o) k = some o := by
  induction l with
  | nil => simp [lput, lget]
  | cons a r ih =>
    obtain ⟨i, x⟩ := a
    unfold lput
    split
    · simp [lget]
    · split
      · simp [lget]
      · rename_i h1 h2; simp only [lget]; rw [if_neg (fun e => h2 e.symm), ih]
theorem lput_comm {l : List (Nat × AO)} {i j : Nat} {x y : AO} (h : i ≠ j) : lput (lput l i x) j y = lput (lput l j y) i x := by
  induction l with
  | nil => grind [lput]
  | cons a r ih =>
    obtain ⟨k, z⟩ := a
    grind [lput]

/-- data: no block of the call's own in it -/
inductive RpD (w : World) (S : Nat → Prop) : AV → Value → Prop
  | p (v : Value) : v.oneCell' = true → RpD w S (.p v) v
  | agg (cs : List AV) (vs : Array Value) : cs.length = vs.size → (∀ (i : Nat) (a : AV) (v : Value), cs[i]? = some a → vs[i]? = some v → RpD w S a v) → (∀ v ∈ vs, v.oneCell' = true) → RpD w S (.agg cs) (.agg vs)
  | dsl (sz : Nat) (xs : List (List AV)) (A : Option Addr) (c : Nat) (z : Nat → Nat → Value) : xs.length ≤ c → c ≤ maxLen → (∀ e ∈ xs, e.length = sz) →
      (∀ (i : Nat) (e : List AV) (j : Nat) (a : AV), xs[i]? = some e → e[j]? = some a → ∃ g o, A = some ⟨g, o, none⟩ ∧ S g ∧ w.cell? ⟨g, o + i * sz + j, none⟩ = some (z i j)) →
      (∀ (i : Nat) (e : List AV) (j : Nat) (a : AV), xs[i]? = some e → e[j]? = some a → RpD w S a (z i j)) → (∀ i j, (z i j).oneCell' = true) → RpD w S (.dsl sz xs) (.slice A xs.length c)
inductive Rp (w : World) (S : Nat → Prop) (σ : Nat → Option Value) : AV → Value → Prop
  | any (v : Value) : Rp w S σ .any v
  | data (a : AV) (v : Value) : RpD w S a v → Rp w S σ a v
  | agg (cs : List AV) (vs : Array Value) : cs.length = vs.size → (∀ (i : Nat) (a : AV) (v : Value), cs[i]? = some a → vs[i]? = some v → Rp w S σ a v) → (∀ v ∈ vs, v.oneCell' = true) → Rp w S σ (.agg cs) (.agg vs)
  | tup (cs : List AV) (vs : Array Value) : cs.length = vs.size → (∀ (i : Nat) (a : AV) (v : Value), cs[i]? = some a → vs[i]? = some v → Rp w S σ a v) → Rp w S σ (.tup cs) (.tuple vs)
  | dptr (sz : Nat) (xs : List (List AV)) (i j g o c : Nat) : RpD w S (.dsl sz xs) (.slice (some ⟨g, o, none⟩) xs.length c) → i < xs.length → Rp w S σ (.dptr sz xs i j) (.pointer (some ⟨g, o + i * sz + j, none⟩))
  | ptr (id off g : Nat) : σ id = some (.pointer (some ⟨g, 0, none⟩)) → Rp w S σ (.ptr id off) (.pointer (some ⟨g, off, none⟩))
  | eptr (id sz i j g o n c : Nat) : σ id = some (.slice (some ⟨g, o, none⟩) n c) → Rp w S σ (.eptr id sz i j) (.pointer (some ⟨g, o + i * sz + j, none⟩))
  | osl (id sz off n : Nat) (A B : Option Addr) (N c cc : Nat) : σ id = some (.slice A N c) → n ≤ cc → off + cc = c → (0 < cc → B = A.map (·.add (off * sz))) → Rp w S σ (.osl id sz off n) (.slice B n cc)
  | mp (id g : Nat) : σ id = some (.map (some g)) → Rp w S σ (.mp id) (.map (some g))
  | fn (f : Fn) (first captured : List AV) (fs cs : Array Value) : first.length = fs.size → captured.length = cs.size → (∀ (i : Nat) (a : AV) (v : Value), first[i]? = some a → fs[i]? = some v → Rp w S σ a v) →
      (∀ (i : Nat) (a : AV) (v : Value), captured[i]? = some a → cs[i]? = some v → Rp w S σ a v) → Rp w S σ (.fn f first captured) (.func f fs cs)

section
variable {w w' : World} {S S' : Nat → Prop} {σ σ' : Nat → Option Value} {a : AV} {v : Value}
theorem RpD.mono (h : RpD w S a v) (hs : ∀ b, S b → S' b) (hw : ∀ b, S b → w'.heap[b]? = w.heap[b]?) : RpD w' S' a v := by
  induction h with
  | p v h => exact .p v h
  | agg cs vs hl _ h1 ih => exact .agg cs vs hl (fun i a v ha hv => ih i a v ha hv) h1
  | dsl sz xs A c z h1 h2 h3 h4 _ h6 ih =>
    refine .dsl sz xs A c z h1 h2 h3 (fun i e j a he ha => ?_) (fun i e j a he ha => ih i e j a he ha) h6
    obtain ⟨g, o, rfl, hg, hc⟩ := h4 i e j a he ha
    exact ⟨g, o, rfl, hs g hg, (World.cell?_of_block (hw g hg)).trans hc⟩
theorem Rp.mono (h : Rp w S σ a v) (hs : ∀ b, S b → S' b) (hw : ∀ b, S b → w'.heap[b]? = w.heap[b]?) (hg : ∀ id u, σ id = some u → σ' id = some u) : Rp w' S' σ' a v := by
  induction h with
  | any v => exact .any v
  | data a v h => exact .data a v (h.mono hs hw)
  | agg cs vs hl _ h1 ih => exact .agg cs vs hl (fun i a v ha hv => ih i a v ha hv) h1
  | tup cs vs hl _ ih => exact .tup cs vs hl (fun i a v ha hv => ih i a v ha hv)
  | dptr sz xs i j g o c h hi => exact .dptr sz xs i j g o c (h.mono hs hw) hi
  | ptr id off g h => exact .ptr id off g (hg _ _ h)
  | eptr id sz i j g o n c h => exact .eptr id sz i j g o n c (hg _ _ h)
  | osl id sz off n A B N c cc h h1 h2 h3 => exact .osl id sz off n A B N c cc (hg _ _ h) h1 h2 h3
  | mp id g h => exact .mp id g (hg _ _ h)
  | fn f first captured fs cs h1 h2 _ _ ih1 ih2 => exact .fn f first captured fs cs h1 h2 (fun i a v ha hv => ih1 i a v ha hv) (fun i a v ha hv => ih2 i a v ha hv)
/-- list by array -/
def Rps (w : World) (S : Nat → Prop) (σ : Nat → Option Value) (ps : List AV) (vs : List Value) : Prop := ps.length = vs.length ∧ ∀ (i : Nat) (a : AV) (v : Value), ps[i]? = some a → vs[i]? = some v → Rp w S σ a v
theorem Rps.nil : Rps w S σ [] [] := ⟨rfl, by simp⟩
theorem Rps.cons {ps : List AV} {vs : List Value} (h : Rp w S σ a v) (hs : Rps w S σ ps vs) : Rps w S σ (a :: ps) (v :: vs) := by
  refine ⟨by simp [hs.1], fun i b u hb hu => ?_⟩
  cases i with
  | zero => simp at hb hu; subst hb; subst hu; exact h
  | succ i => exact hs.2 i b u (by simpa using hb) (by simpa using hu)
theorem Rps.uncons {ps : List AV} {vs : List Value} (h : Rps w S σ (a :: ps) vs) : ∃ v r, vs = v :: r ∧ Rp w S σ a v ∧ Rps w S σ ps r := by
  obtain ⟨hl, h⟩ := h
  match vs, hl with
  | v :: r, hl => exact ⟨v, r, rfl, h 0 a v rfl rfl, by simpa using hl, fun i b u hb hu => h (i + 1) b u (by simpa using hb) (by simpa using hu)⟩
theorem Rps.nil_inv {vs : List Value} (h : Rps w S σ [] vs) : vs = [] := List.eq_nil_of_length_eq_zero h.1.symm
theorem Rps.mono {ps : List AV} {vs : List Value} (h : Rps w S σ ps vs) (hs : ∀ b, S b → S' b) (hw : ∀ b, S b → w'.heap[b]? = w.heap[b]?) (hg : ∀ id u, σ id = some u → σ' id = some u) : Rps w' S' σ' ps vs :=
  ⟨h.1, fun i a v ha hv => (h.2 i a v ha hv).mono hs hw hg⟩
theorem Rps.append {ps bs : List AV} {vs us : List Value} (h : Rps w S σ ps vs) (h' : Rps w S σ bs us) : Rps w S σ (ps ++ bs) (vs ++ us) := by
  refine ⟨by simp [h.1, h'.1], fun i a v ha hv => ?_⟩
  by_cases hi : i < ps.length
  · rw [List.getElem?_append_left hi] at ha
    rw [List.getElem?_append_left (by rw [← h.1]; exact hi)] at hv
    exact h.2 i a v ha hv
  · rw [List.getElem?_append_right (by omega)] at ha
    rw [List.getElem?_append_right (by rw [← h.1]; omega), ← h.1] at hv
    exact h'.2 _ a v ha hv
theorem Rp.p_inv {u : Value} (h : Rp w S σ (.p u) v) : v = u ∧ u.oneCell' = true := by
  cases h with
  | data _ _ h => cases h with | p _ h => exact ⟨rfl, h⟩
theorem Rp.agg_inv {cs : List AV} (h : Rp w S σ (.agg cs) v) : ∃ vs : Array Value, v = .agg vs ∧ Rps w S σ cs vs.toList ∧ ∀ u ∈ vs, u.oneCell' = true := by
  cases h with
  | data _ _ h => cases h with
    | agg _ vs hl h h1 => exact ⟨vs, rfl, ⟨by simpa using hl, fun i a u ha hu => .data _ _ (h i a u ha (by simpa using hu))⟩, h1⟩
  | agg _ vs hl h h1 => exact ⟨vs, rfl, ⟨by simpa using hl, fun i a u ha hu => h i a u ha (by simpa using hu)⟩, h1⟩
theorem Rp.tup_inv {cs : List AV} (h : Rp w S σ (.tup cs) v) : ∃ vs : Array Value, v = .tuple vs ∧ Rps w S σ cs vs.toList := by
  cases h with
  | data _ _ h => cases h
  | tup _ vs hl h => exact ⟨vs, rfl, by simpa using hl, fun i a u ha hu => h i a u ha (by simpa using hu)⟩
theorem Rp.dsl_inv {sz : Nat} {xs : List (List AV)} (h : Rp w S σ (.dsl sz xs) v) : RpD w S (.dsl sz xs) v := by
  cases h with
  | data _ _ h => exact h
theorem RpD.dsl_inv {sz : Nat} {xs : List (List AV)} (h : RpD w S (.dsl sz xs) v) : ∃ (A : Option Addr) (c : Nat) (z : Nat → Nat → Value), v = .slice A xs.length c ∧ xs.length ≤ c ∧ c ≤ maxLen ∧ (∀ e ∈ xs, e.length = sz) ∧
      (∀ (i : Nat) (e : List AV) (j : Nat) (a : AV), xs[i]? = some e → e[j]? = some a → ∃ g o, A = some ⟨g, o, none⟩ ∧ S g ∧ w.cell? ⟨g, o + i * sz + j, none⟩ = some (z i j)) ∧
      (∀ (i : Nat) (e : List AV) (j : Nat) (a : AV), xs[i]? = some e → e[j]? = some a → RpD w S a (z i j)) ∧ (∀ i j, (z i j).oneCell' = true) := by
  cases h with
  | dsl _ _ A c z h1 h2 h3 h4 h5 h6 => exact ⟨A, c, z, rfl, h1, h2, h3, h4, h5, h6⟩
theorem Rp.dptr_inv {sz i j : Nat} {xs : List (List AV)} (h : Rp w S σ (.dptr sz xs i j) v) : ∃ g o c, v = .pointer (some ⟨g, o + i * sz + j, none⟩) ∧ RpD w S (.dsl sz xs) (.slice (some ⟨g, o, none⟩) xs.length c) ∧ i < xs.length := by
  cases h with
  | data _ _ h => cases h
  | dptr _ _ _ _ g o c h hi => exact ⟨g, o, c, rfl, h, hi⟩
theorem Rp.ptr_inv {id off : Nat} (h : Rp w S σ (.ptr id off) v) : ∃ g, v = .pointer (some ⟨g, off, none⟩) ∧ σ id = some (.pointer (some ⟨g, 0, none⟩)) := by
  cases h with
  | data _ _ h => cases h
  | ptr _ _ g h => exact ⟨g, rfl, h⟩
theorem Rp.eptr_inv {id sz i j : Nat} (h : Rp w S σ (.eptr id sz i j) v) : ∃ g o n c, v = .pointer (some ⟨g, o + i * sz + j, none⟩) ∧ σ id = some (.slice (some ⟨g, o, none⟩) n c) := by
  cases h with
  | data _ _ h => cases h
  | eptr _ _ _ _ g o n c h => exact ⟨g, o, n, c, rfl, h⟩
theorem Rp.osl_inv {id sz off n : Nat} (h : Rp w S σ (.osl id sz off n) v) : ∃ (A B : Option Addr) (N c cc : Nat), v = .slice B n cc ∧ σ id = some (.slice A N c) ∧ n ≤ cc ∧ off + cc = c ∧ (0 < cc → B = A.map (·.add (off * sz))) := by
  cases h with
  | data _ _ h => cases h
  | osl _ _ _ _ A B N c cc h h1 h2 h3 => exact ⟨A, B, N, c, cc, rfl, h, h1, h2, h3⟩
theorem Rp.mp_inv {id : Nat} (h : Rp w S σ (.mp id) v) : ∃ g, v = .map (some g) ∧ σ id = some (.map (some g)) := by
  cases h with
  | data _ _ h => cases h
  | mp _ g h => exact ⟨g, rfl, h⟩
theorem Rp.fn_inv {f : Fn} {first captured : List AV} (h : Rp w S σ (.fn f first captured) v) : ∃ fs cs : Array Value, v = .func f fs cs ∧ Rps w S σ first fs.toList ∧ Rps w S σ captured cs.toList := by
  cases h with
  | data _ _ h => cases h
  | fn _ _ _ fs cs h1 h2 h3 h4 => exact ⟨fs, cs, rfl, ⟨by simpa using h1, fun i a u ha hu => h3 i a u ha (by simpa using hu)⟩, by simpa using h2, fun i a u ha hu => h4 i a u ha (by simpa using hu)⟩
theorem Rps.agg {cs : List AV} {vs : Array Value} (h : Rps w S σ cs vs.toList) (h1 : ∀ u ∈ vs, u.oneCell' = true) : Rp w S σ (.agg cs) (.agg vs) :=
  .agg cs vs (by simpa using h.1) (fun i a v ha hv => h.2 i a v ha (by simpa using hv)) h1
theorem Rps.tup {cs : List AV} {vs : Array Value} (h : Rps w S σ cs vs.toList) : Rp w S σ (.tup cs) (.tuple vs) :=
  .tup cs vs (by simpa using h.1) (fun i a v ha hv => h.2 i a v ha (by simpa using hv))
end
/-- one cell's worth -/
def AV.one : AV → Bool
  | .any | .agg _ | .tup _ => false
  | _ => true
theorem Rp.one_cell {w : World} {S : Nat → Prop} {σ : Nat → Option Value} {a : AV} {v : Value} (h : Rp w S σ a v) (h1 : a.one = true) : v.oneCell' = true := by
  cases h with
  | data _ _ h => cases h with
    | p _ h => exact h
    | agg _ _ _ _ => cases h1
    | dsl => rfl
  | any | agg | tup => cases h1
  | dptr | ptr | eptr | osl | mp | fn => rfl
end Go.Proofs.Ytcmnjoepadjioaa
