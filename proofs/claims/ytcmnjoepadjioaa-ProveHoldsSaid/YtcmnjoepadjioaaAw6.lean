/- Operations that read memory or lay new things, on abstract memory. Nothing of the program is named here. -/
import Derived.Test.YtcmnjoepadjioaaAw5
namespace Go.Proofs.Ytcmnjoepadjioaa
open Go.RowKit Go.Maps

/-- the cells from a place on -/
inductive AtA (H : AH) : AV → List AV → Prop
  | box (id off : Nat) (t : TypeId) (cs : List AV) : H.get id = some (.box t cs) → AtA H (.ptr id off) (cs.drop off)
  | row (id sz i j : Nat) (t : TypeId) (es : List (List AV)) (e : List AV) : H.get id = some (.row t sz es) → es[i]? = some e → AtA H (.eptr id sz i j) (e.drop j)
  | frz (id sz i j : Nat) (es : List (List AV)) (e : List AV) : H.get id = some (.frz sz es) → es[i]? = some e → AtA H (.eptr id sz i j) (e.drop j)
  | dat (sz i j : Nat) (xs : List (List AV)) (e : List AV) : xs[i]? = some e → AtA H (.dptr sz xs i j) (e.drop j)
/-- the elements of a slice -/
inductive ElA (H : AH) (sz : Nat) : AV → List (List AV) → Prop
  | dsl (xs : List (List AV)) : ElA H sz (.dsl sz xs) xs
  | row (id off n : Nat) (t : TypeId) (es : List (List AV)) : H.get id = some (.row t sz es) → off + n ≤ es.length → ElA H sz (.osl id sz off n) ((es.drop off).take n)
  | frz (id off n : Nat) (es : List (List AV)) : H.get id = some (.frz sz es) → off + n ≤ es.length → ElA H sz (.osl id sz off n) ((es.drop off).take n)
  | nil_ (A : Option Addr) (c : Nat) : ElA H sz (.p (.slice A 0 c)) []
inductive RO where
  | ld (n : Nat) (agg : Bool)
  | look (kt : TypeId) (z : AV) (ok : Bool)
inductive RdR (P : Program) (H : AH) : RO → List AV → AV → Prop
  | ld_agg (n : Nat) (a : AV) (ds : List AV) : AtA H a ds → n ≤ ds.length → RdR P H (.ld n true) [a] (.agg (ds.take n))
  | ld_one (n : Nat) (a b : AV) (ds : List AV) : AtA H a ds → ds[0]? = some b → RdR P H (.ld n false) [a] b
  | look_no (kt : TypeId) (z : AV) (ok : Bool) (id n : Nat) (f : Value → Option AV) (key : AV) (u : Value) : H.get id = some (.map kt n f) → Keyed P kt → key.val = some u → (keyOf P kt u).isSome = true → f u = none →
      RdR P H (.look kt z ok) [.mp id, key] (if ok then .tup [z, .p (.bool false)] else z)
  | look_yes (kt : TypeId) (z b : AV) (ok : Bool) (id n : Nat) (f : Value → Option AV) (key : AV) (u : Value) : H.get id = some (.map kt n f) → Keyed P kt → key.val = some u → (keyOf P kt u).isSome = true → f u = some b →
      RdR P H (.look kt z ok) [.mp id, key] (if ok then .tup [b, .p (.bool true)] else b)
def zeroV (P : Program) (t : TypeId) : Option AV :=
  match P.info? t with
  | some i => match i.zero with
    | some (.agg cs) => if cs.all (·.oneCell') then some (.agg (cs.toList.map .p)) else none
    | some v => if v.oneCell' then some (.p v) else none
    | none => none
  | none => none
def clsR (P : Program) (o : Op) : Option (RO × List Operand) :=
  match o with
  | .load t x => match aggB P t, P.info? t with
    | some b, some i => some (.ld i.size b, [x])
    | _, _ => none
  | .lookup t x k ok => match P.underlying t with
    | some (.map kt e) => match zeroV P e with
      | some z => some (.look kt z ok, [x, k])
      | none => none
    | _ => none
  | _ => none

section
variable {P : Program} {w : World} {S : Nat → Prop} {σ : Nat → Option Value} {ev : Operand → Value} {H : AH}
theorem zeroV_run {t : TypeId} {z : AV} (h : zeroV P t = some z) : ∃ v, (zeroValue t).run P w = .ok v w ∧ Rp w S σ z v := by
  unfold zeroV at h
  cases hi : P.info? t with
  | none => rw [hi] at h; cases h
  | some i =>
    rw [hi] at h
    simp only at h
    cases hz : i.zero with
    | none => rw [hz] at h; cases h
    | some v =>
      rw [hz] at h
      refine ⟨v, by simp [zeroValue, typeInfo, hi, hz], ?_⟩
      cases v <;> simp only at h
      case agg cs =>
        split at h
        · rename_i hall
          rw [Array.all_eq_true'] at hall
          injection h with h
          subst h
          refine .agg _ _ (by simp) (fun k a u ha hu => ?_) hall
          rw [List.getElem?_map, Array.getElem?_toList, hu] at ha
          simp at ha; subst ha
          exact .data _ _ (.p _ (hall u (Array.mem_of_getElem? hu)))
        · cases h
      all_goals
        first
        | (rw [if_pos rfl] at h; injection h with h; subst h; exact .data _ _ (.p _ rfl))
        | (simp [Value.oneCell'] at h; subst h; exact .data _ _ (.p _ rfl))
        | (simp [Value.oneCell'] at h)
/-- cells that lie from a place on -/
def Lies (w : World) (S : Nat → Prop) (σ : Nat → Option Value) (g off : Nat) (ds : List AV) : Prop := ∀ (k : Nat) (b : AV), ds[k]? = some b → ∃ u, w.cell? ⟨g, off + k, none⟩ = some u ∧ Rp w S σ b u ∧ u.oneCell' = true
theorem at_sound (hs : Sat P w S σ H) {a : AV} {ds : List AV} {v : Value} (h : AtA H a ds) (hr : Rp w S σ a v) : ∃ g off, v = .pointer (some ⟨g, off, none⟩) ∧ Lies w S σ g off ds := by
  cases h with
  | box id off t cs hg =>
    obtain ⟨g, rfl, hσ⟩ := hr.ptr_inv
    obtain ⟨g', arr, h1, h2, h3, h4⟩ := hs.obj id _ hg
    rw [hσ] at h1
    simp only [Option.some.injEq, Value.pointer.injEq, Addr.mk.injEq, and_true] at h1
    subst h1
    refine ⟨g, off, rfl, fun k b hb => ?_⟩
    rw [List.getElem?_drop] at hb
    obtain ⟨u, hu, hbu⟩ := h3.at_ hb
    rw [Array.getElem?_toList] at hu
    exact ⟨u, by rw [h2.cell]; exact hu, hbu, h4 u (Array.mem_of_getElem? hu)⟩
  | row id sz i j t es e hg he =>
    obtain ⟨g, o, n, c, rfl, hσ⟩ := hr.eptr_inv
    obtain ⟨A, c', h1, h2, h3, h4, h5⟩ := hs.obj id _ hg
    rw [hσ] at h1
    simp only [Option.some.injEq, Value.slice.injEq] at h1
    obtain ⟨rfl, rfl, rfl⟩ := h1
    rcases h5 with ⟨h5, _⟩ | ⟨g', o', arr, h5, k1, k2, k3, k4⟩
    · cases h5
    · simp only [Option.some.injEq, Addr.mk.injEq, and_true] at h5
      obtain ⟨rfl, rfl⟩ := h5
      refine ⟨g, _, rfl, fun k b hb => ?_⟩
      rw [List.getElem?_drop] at hb
      obtain ⟨u, hu, hbu⟩ := k4 i e (j + k) b he hb
      exact ⟨u, by rw [k1.cell, show o + i * sz + j + k = o + i * sz + (j + k) by omega]; exact hu, hbu, k3 u (Array.mem_of_getElem? hu)⟩
  | frz id sz i j es e hg he =>
    obtain ⟨g, o, n, c, rfl, hσ⟩ := hr.eptr_inv
    obtain ⟨A, c', h1, h2⟩ := hs.obj id _ hg
    rw [hσ] at h1
    simp only [Option.some.injEq, Value.slice.injEq] at h1
    obtain ⟨rfl, rfl, rfl⟩ := h1
    obtain ⟨A, c', z, e1, r1, r2, r3, r4, r5, r6⟩ := h2.dsl_inv
    simp only [Value.slice.injEq] at e1
    obtain ⟨rfl, _, rfl⟩ := e1
    refine ⟨g, _, rfl, fun k b hb => ?_⟩
    rw [List.getElem?_drop] at hb
    obtain ⟨g', o', e2, _, hc⟩ := r4 i e (j + k) b he hb
    simp only [Option.some.injEq, Addr.mk.injEq, and_true] at e2
    obtain ⟨rfl, rfl⟩ := e2
    exact ⟨_, by rw [show o + i * sz + j + k = o + i * sz + (j + k) by omega]; exact hc, .data _ _ (r5 i e (j + k) b he hb), r6 _ _⟩
  | dat sz i j xs e he =>
    obtain ⟨g, o, c, rfl, h2, hi⟩ := hr.dptr_inv
    obtain ⟨A, c', z, e1, r1, r2, r3, r4, r5, r6⟩ := h2.dsl_inv
    simp only [Value.slice.injEq] at e1
    obtain ⟨rfl, _, rfl⟩ := e1
    refine ⟨g, _, rfl, fun k b hb => ?_⟩
    rw [List.getElem?_drop] at hb
    obtain ⟨g', o', e2, _, hc⟩ := r4 i e (j + k) b he hb
    simp only [Option.some.injEq, Addr.mk.injEq, and_true] at e2
    obtain ⟨rfl, rfl⟩ := e2
    exact ⟨_, by rw [show o + i * sz + j + k = o + i * sz + (j + k) by omega]; exact hc, .data _ _ (r5 i e (j + k) b he hb), r6 _ _⟩
/-- cells that lie so are read so -/
theorem lies_list {g off n : Nat} {ds : List AV} (h : Lies w S σ g off ds) (hn : n ≤ ds.length) : ∃ us : List Value, us.length = n ∧ Rps w S σ (ds.take n) us ∧ (∀ u ∈ us, u.oneCell' = true) ∧ ∀ (j : Nat) (u : Value), us[j]? = some u → w.cell? ⟨g, off + j, none⟩ = some u := by
  induction n with
  | zero => exact ⟨[], rfl, by rw [List.take_zero]; exact .nil, by simp, by simp⟩
  | succ n ih =>
    obtain ⟨us, h1, h2, h3, h4⟩ := ih (by omega)
    obtain ⟨u, hu, hr, ho⟩ := h n _ (List.getElem?_eq_getElem (by omega))
    refine ⟨us ++ [u], by simp [h1], ?_, fun x hx => ?_, fun j x hx => ?_⟩
    · rw [List.take_succ_eq_append_getElem (by omega)]
      exact h2.append (.cons hr .nil)
    · rcases List.mem_append.1 hx with hx | hx
      · exact h3 x hx
      · simp at hx; subst hx; exact ho
    · by_cases hj : j < us.length
      · rw [List.getElem?_append_left hj] at hx; exact h4 j x hx
      · rw [List.getElem?_append_right (by omega)] at hx
        have : j - us.length = 0 := by have := (List.getElem?_eq_some_iff.1 hx).1; simp at this; omega
        rw [this] at hx
        simp at hx; subst hx
        rw [show j = n by omega]; exact hu
theorem rd_load {o : Oper} {t : TypeId} {x : Operand} {b : Bool} {i : TypeInfo} {a : AV} {args : List AV} (hs : Sat P w S σ H) (ho : o.op = .load t x) (h1 : aggB P t = some b) (h2 : P.info? t = some i) (hp : RdR P H (.ld i.size b) args a) (hr : Rps w S σ args [ev x]) : Val1 P w S σ ev o a := by
  have hag := run_isAggB (w := w) h1
  cases hp with
  | ld_agg n a ds hat hle =>
    obtain ⟨v, e, h⟩ := hr.one_inv
    injection e with e; subst e
    obtain ⟨g, off, hx, hl⟩ := at_sound hs hat h
    obtain ⟨us, k1, k2, k3, k4⟩ := lies_list hl hle
    refine ⟨.agg us.toArray, ?_, Rps.agg (by simpa using k2) (fun u hu => k3 u (by simpa using hu))⟩
    have := run_loadCells_list (P := P) w ⟨g, off, none⟩ us (fun j u hu => by rw [addr_add]; exact k4 j u hu)
    rw [k1] at this
    simp [execOp, ho, Instr.loadAt, hx, Instr.sureAddr, loadVar, hag, sizeOf, typeInfo, h2, this]
  | ld_one n a b ds hat hb =>
    obtain ⟨v, e, h⟩ := hr.one_inv
    injection e with e; subst e
    obtain ⟨g, off, hx, hl⟩ := at_sound hs hat h
    obtain ⟨u, hu, hru, _⟩ := hl 0 _ hb
    refine ⟨u, ?_, hru⟩
    simp [execOp, ho, Instr.loadAt, hx, Instr.sureAddr, loadVar, hag, show w.cell? ⟨g, off, none⟩ = some u from hu]
theorem rd_sound {o : Oper} {ro : RO} {xs : List Operand} {args : List AV} {a : AV} (hs : Sat P w S σ H) (hc : clsR P o.op = some (ro, xs)) (hp : RdR P H ro args a) (hr : Rps w S σ args (xs.map ev)) : Val1 P w S σ ev o a := by
  cases ho : o.op <;> rw [ho] at hc <;> simp only [clsR] at hc <;> try (cases hc; done)
  case load t x =>
    cases h1 : aggB P t with
    | none => rw [h1] at hc; cases hc
    | some b =>
      cases h2 : P.info? t with
      | none => rw [h1, h2] at hc; cases hc
      | some i =>
        rw [h1, h2] at hc
        simp only [Option.some.injEq, Prod.mk.injEq] at hc
        obtain ⟨rfl, rfl⟩ := hc
        exact rd_load hs ho h1 h2 hp hr
  case lookup t x k ok =>
    cases h1 : P.underlying t with
    | none => rw [h1] at hc; cases hc
    | some d =>
      rw [h1] at hc
      cases d <;> (try simp only at hc) <;> try (cases hc; done)
      rename_i kt e
      have key : ∃ z zv, ro = .look kt z ok ∧ xs = [x, k] ∧ (zeroValue e).run P w = .ok zv w ∧ Rp w S σ z zv := by
        cases hz : zeroV P e with
        | none => rw [hz] at hc; cases hc
        | some z =>
          rw [hz] at hc
          simp only [Option.some.injEq, Prod.mk.injEq] at hc
          obtain ⟨v, hv, q1⟩ := zeroV_run (P := P) (w := w) (S := S) (σ := σ) hz
          exact ⟨z, v, hc.1.symm, hc.2.symm, hv, q1⟩
      obtain ⟨z, zv, rfl, rfl, hz, hrz⟩ := key
      have run : ∀ (id n : Nat) (f : Value → Option AV) (ka : AV) (u : Value), args = [.mp id, ka] → H.get id = some (.map kt n f) → Keyed P kt → ka.val = some u → (keyOf P kt u).isSome = true →
          ∃ f' : Value → Option Value, (execOp ev o).run P w = .ok (.value (if ok then .tuple #[(f' u).getD zv, .bool (f' u).isSome] else (f' u).getD zv)) w ∧ ((f u = none ∧ f' u = none) ∨ ∃ a v, f u = some a ∧ f' u = some v ∧ Rp w S σ a v) := by
        intro id n f ka u hargs hg K hu hk
        subst hargs
        obtain ⟨v1, v2, e1, q1, q2⟩ := hr.two_inv
        simp only [List.map_cons, List.map_nil, List.cons.injEq, and_true] at e1
        obtain ⟨rfl, rfl⟩ := e1
        obtain ⟨g, hx, hσ⟩ := q1.mp_inv
        have hku := AV.val_sound hu q2
        obtain ⟨g', f', m1, m2, m3⟩ := hs.obj id _ hg
        rw [hσ] at m1
        simp only [Option.some.injEq, Value.map.injEq] at m1
        subst m1
        refine ⟨f', ?_, m3 u⟩
        have := m2.lookAny ok K h1 hz hk
        simp [execOp, ho, hx, hku, this]
      cases hp with
      | look_no _ _ _ id n f ka u hg K hu hk hf =>
        obtain ⟨f', hrun, hff⟩ := run id n f ka u rfl hg K hu hk
        rcases hff with ⟨_, hff⟩ | ⟨a, v, hff, _⟩
        · rw [hff] at hrun
          cases ok
          · exact ⟨_, hrun, hrz⟩
          · exact ⟨_, hrun, Rps.tup (by simpa using Rps.cons hrz (.cons (.data _ _ (.p _ rfl)) .nil))⟩
        · rw [hf] at hff; cases hff
      | look_yes _ _ b _ id n f ka u hg K hu hk hf =>
        obtain ⟨f', hrun, hff⟩ := run id n f ka u rfl hg K hu hk
        rcases hff with ⟨hff, _⟩ | ⟨a, v, hff, hfv, hra⟩
        · rw [hf] at hff; cases hff
        · rw [hf] at hff
          injection hff with hff
          subst hff
          rw [hfv] at hrun
          cases ok
          · exact ⟨_, hrun, hra⟩
          · exact ⟨_, hrun, Rps.tup (by simpa using Rps.cons hra (.cons (.data _ _ (.p _ rfl)) .nil))⟩
end
end Go.Proofs.Ytcmnjoepadjioaa
