/- Texts that the proof rests on, part 4: what each holds stands at its head. -/
import Derived.Test.YtgkkilbeingleaaMt3
import Derived.Laws.IdiomStrings
import Derived.Great.BuildSlice
import Derived.MapKept

/- Operations that read memory or lay new things, on abstract memory. Nothing of the program is named here. -/
namespace Go.Proofs.Ytgkkilbeingleaa
open Go.RowKit Go.Maps

/-- the cells from a place on -/
inductive AtA (H : AH) : AV → List AV → Prop
  | box (id off : Nat) (t : TypeId) (cs : List AV) : H.get id = some (.box t cs) → AtA H (.ptr id off) (cs.drop off)
  | row (id sz i j : Nat) (t : TypeId) (es : List (List AV)) (e : List AV) : H.get id = some (.row t sz es) → es[i]? = some e → AtA H (.eptr id sz i j) (e.drop j)
  | frz (id sz i j : Nat) (es : List (List AV)) (e : List AV) : H.get id = some (.frz sz es) → es[i]? = some e → AtA H (.eptr id sz i j) (e.drop j)
  | crow (id sz i j c : Nat) (t : TypeId) (es : List (List AV)) (e : List AV) : H.get id = some (.crow t sz c es) → es[i]? = some e → AtA H (.eptr id sz i j) (e.drop j)
  | dat (sz i j : Nat) (xs : List (List AV)) (e : List AV) : xs[i]? = some e → AtA H (.dptr sz xs i j) (e.drop j)
/-- the elements of a slice -/
inductive ElA (H : AH) (sz : Nat) : AV → List (List AV) → Prop
  | dsl (xs : List (List AV)) : ElA H sz (.dsl sz xs) xs
  | row (id off n : Nat) (t : TypeId) (es : List (List AV)) : H.get id = some (.row t sz es) → off + n ≤ es.length → ElA H sz (.osl id sz off n) ((es.drop off).take n)
  | frz (id off n : Nat) (es : List (List AV)) : H.get id = some (.frz sz es) → off + n ≤ es.length → ElA H sz (.osl id sz off n) ((es.drop off).take n)
  | crow (id off n c : Nat) (t : TypeId) (es : List (List AV)) : H.get id = some (.crow t sz c es) → off + n ≤ es.length → ElA H sz (.osl id sz off n) ((es.drop off).take n)
  | nil_ (A : Option Addr) (c : Nat) : ElA H sz (.p (.slice A 0 c)) []
/-- bytes of a text as elements -/
def strE (q : ByteArray) : List (List AV) := q.data.toList.map fun b => [.p (.int .u8 b.toNat)]
inductive RO where
  | bstr
  | ld (n : Nat) (agg : Bool)
  | look (kt : TypeId) (z : AV) (ok : Bool)
inductive RdR (P : Program) (H : AH) : RO → List AV → AV → Prop
  | ld_agg (n : Nat) (a : AV) (ds : List AV) : AtA H a ds → n ≤ ds.length → RdR P H (.ld n true) [a] (.agg (ds.take n))
  | ld_one (n : Nat) (a b : AV) (ds : List AV) : AtA H a ds → ds[0]? = some b → RdR P H (.ld n false) [a] b
  | look_no (kt : TypeId) (z : AV) (ok : Bool) (id n : Nat) (f : Value → Option AV) (key : AV) (u : Value) : H.get id = some (.map kt n f) → Keyed P kt → key.val = some u → (keyOf P kt u).isSome = true → f u = none →
      RdR P H (.look kt z ok) [.mp id, key] (if ok then .tup [z, .p (.bool false)] else z)
  | look_yes (kt : TypeId) (z b : AV) (ok : Bool) (id n : Nat) (f : Value → Option AV) (key : AV) (u : Value) : H.get id = some (.map kt n f) → Keyed P kt → key.val = some u → (keyOf P kt u).isSome = true → f u = some b →
      RdR P H (.look kt z ok) [.mp id, key] (if ok then .tup [b, .p (.bool true)] else b)
  | bstr (x : AV) (q : ByteArray) : ElA H 1 x (strE q) → RdR P H .bstr [x] (.p (.string q))
def zeroV (P : Program) (t : TypeId) : Option AV :=
  match P.info? t with
  | some i => match i.zero with
    | some (.agg cs) => if cs.all (·.oneCell') then some (.agg (cs.toList.map .p)) else none
    | some v => if v.oneCell' then some (.p v) else none
    | none => none
  | none => none
def clsR (P : Program) (o : Op) : Option (RO × List Operand) :=
  match o with
  | .load t x => match aggB P t, P.info? t with
    | some b, some i => some (.ld i.size b, [x])
    | _, _ => none
  | .lookup t x k ok => match P.underlying t with
    | some (.map kt e) => match zeroV P e with
      | some z => some (.look kt z ok, [x, k])
      | none => none
    | _ => none
  | .convert s d x => match P.underlying s, P.underlying d with
    | some (.slice e), some .string => match P.underlying e with
      | some (.int .u8) => some (.bstr, [x])
      | _ => none
    | _, _ => none
  | _ => none

section
variable {P : Program} {w : World} {S : Nat → Prop} {σ : Nat → Option Value} {ev : Operand → Value} {H : AH}
theorem zeroV_run {t : TypeId} {z : AV} (h : zeroV P t = some z) : ∃ v, (zeroValue t).run P w = .ok v w ∧ Rp w S σ z v := by
  unfold zeroV at h
  cases hi : P.info? t with
  | none => rw [hi] at h; cases h
  | some i =>
    rw [hi] at h
    simp only at h
    cases hz : i.zero with
    | none => rw [hz] at h; cases h
    | some v =>
      rw [hz] at h
      refine ⟨v, by simp [zeroValue, typeInfo, hi, hz], ?_⟩
      cases v <;> simp only at h
      case agg cs =>
        split at h
        · rename_i hall
          rw [Array.all_eq_true'] at hall
          injection h with h
          subst h
          refine .agg _ _ (by simp) (fun k a u ha hu => ?_) hall
          rw [List.getElem?_map, Array.getElem?_toList, hu] at ha
          simp at ha; subst ha
          exact .data _ _ (.p _ (hall u (Array.mem_of_getElem? hu)))
        · cases h
      all_goals
        first
        | (rw [if_pos rfl] at h; injection h with h; subst h; exact .data _ _ (.p _ rfl))
        | (simp [Value.oneCell'] at h; subst h; exact .data _ _ (.p _ rfl))
        | (simp [Value.oneCell'] at h)
/-- cells that lie from a place on -/
def Lies (w : World) (S : Nat → Prop) (σ : Nat → Option Value) (g off : Nat) (ds : List AV) : Prop := ∀ (k : Nat) (b : AV), ds[k]? = some b → ∃ u, w.cell? ⟨g, off + k, none⟩ = some u ∧ Rp w S σ b u ∧ u.oneCell' = true
theorem at_sound (hs : Sat P w S σ H) {a : AV} {ds : List AV} {v : Value} (h : AtA H a ds) (hr : Rp w S σ a v) : ∃ g off, v = .pointer (some ⟨g, off, none⟩) ∧ Lies w S σ g off ds := by
  cases h with
  | box id off t cs hg =>
    obtain ⟨g, rfl, hσ⟩ := hr.ptr_inv
    obtain ⟨g', arr, h1, h2, h3, h4⟩ := hs.obj id _ hg
    rw [hσ] at h1
    simp only [Option.some.injEq, Value.pointer.injEq, Addr.mk.injEq, and_true] at h1
    subst h1
    refine ⟨g, off, rfl, fun k b hb => ?_⟩
    rw [List.getElem?_drop] at hb
    obtain ⟨u, hu, hbu⟩ := h3.at_ hb
    rw [Array.getElem?_toList] at hu
    exact ⟨u, by rw [h2.cell]; exact hu, hbu, h4 u (Array.mem_of_getElem? hu)⟩
  | row id sz i j t es e hg he =>
    obtain ⟨g, o, n, c, rfl, hσ⟩ := hr.eptr_inv
    obtain ⟨A, c', h1, h2, h3, h4, h5⟩ := hs.obj id _ hg
    rw [hσ] at h1
    simp only [Option.some.injEq, Value.slice.injEq] at h1
    obtain ⟨rfl, rfl, rfl⟩ := h1
    rcases h5 with ⟨h5, _⟩ | ⟨g', o', arr, h5, k1, k2, k3, k4⟩
    · cases h5
    · simp only [Option.some.injEq, Addr.mk.injEq, and_true] at h5
      obtain ⟨rfl, rfl⟩ := h5
      refine ⟨g, _, rfl, fun k b hb => ?_⟩
      rw [List.getElem?_drop] at hb
      obtain ⟨u, hu, hbu⟩ := k4 i e (j + k) b he hb
      exact ⟨u, by rw [k1.cell, show o + i * sz + j + k = o + i * sz + (j + k) by omega]; exact hu, hbu, k3 u (Array.mem_of_getElem? hu)⟩
  | crow id sz i j cr t es e hg he =>
    obtain ⟨g, o, n, c, rfl, hσ⟩ := hr.eptr_inv
    obtain ⟨A, c', h1, h2, h3, h4, h5⟩ := hs.obj id _ hg
    rw [hσ] at h1
    simp only [Option.some.injEq, Value.slice.injEq] at h1
    obtain ⟨rfl, rfl, rfl⟩ := h1
    rcases h5 with ⟨h5, _⟩ | ⟨g', o', arr, h5, k1, k2, k3, k4⟩
    · cases h5
    · simp only [Option.some.injEq, Addr.mk.injEq, and_true] at h5
      obtain ⟨rfl, rfl⟩ := h5
      refine ⟨g, _, rfl, fun k b hb => ?_⟩
      rw [List.getElem?_drop] at hb
      obtain ⟨u, hu, hbu⟩ := k4 i e (j + k) b he hb
      exact ⟨u, by rw [k1.cell, show o + i * sz + j + k = o + i * sz + (j + k) by omega]; exact hu, hbu, k3 u (Array.mem_of_getElem? hu)⟩
  | frz id sz i j es e hg he =>
    obtain ⟨g, o, n, c, rfl, hσ⟩ := hr.eptr_inv
    obtain ⟨A, c', h1, h2⟩ := hs.obj id _ hg
    rw [hσ] at h1
    simp only [Option.some.injEq, Value.slice.injEq] at h1
    obtain ⟨rfl, rfl, rfl⟩ := h1
    obtain ⟨A, c', z, e1, r1, r2, r3, r4, r5, r6⟩ := h2.dsl_inv
    simp only [Value.slice.injEq] at e1
    obtain ⟨rfl, _, rfl⟩ := e1
    refine ⟨g, _, rfl, fun k b hb => ?_⟩
    rw [List.getElem?_drop] at hb
    obtain ⟨g', o', e2, _, hc⟩ := r4 i e (j + k) b he hb
    simp only [Option.some.injEq, Addr.mk.injEq, and_true] at e2
    obtain ⟨rfl, rfl⟩ := e2
    exact ⟨_, by rw [show o + i * sz + j + k = o + i * sz + (j + k) by omega]; exact hc, .data _ _ (r5 i e (j + k) b he hb), r6 _ _⟩
  | dat sz i j xs e he =>
    obtain ⟨g, o, c, rfl, h2, hi⟩ := hr.dptr_inv
    obtain ⟨A, c', z, e1, r1, r2, r3, r4, r5, r6⟩ := h2.dsl_inv
    simp only [Value.slice.injEq] at e1
    obtain ⟨rfl, _, rfl⟩ := e1
    refine ⟨g, _, rfl, fun k b hb => ?_⟩
    rw [List.getElem?_drop] at hb
    obtain ⟨g', o', e2, _, hc⟩ := r4 i e (j + k) b he hb
    simp only [Option.some.injEq, Addr.mk.injEq, and_true] at e2
    obtain ⟨rfl, rfl⟩ := e2
    exact ⟨_, by rw [show o + i * sz + j + k = o + i * sz + (j + k) by omega]; exact hc, .data _ _ (r5 i e (j + k) b he hb), r6 _ _⟩
/-- cells that lie so are read so -/
theorem lies_list {g off n : Nat} {ds : List AV} (h : Lies w S σ g off ds) (hn : n ≤ ds.length) : ∃ us : List Value, us.length = n ∧ Rps w S σ (ds.take n) us ∧ (∀ u ∈ us, u.oneCell' = true) ∧ ∀ (j : Nat) (u : Value), us[j]? = some u → w.cell? ⟨g, off + j, none⟩ = some u := by
  induction n with
  | zero => exact ⟨[], rfl, by rw [List.take_zero]; exact .nil, by simp, by simp⟩
  | succ n ih =>
    obtain ⟨us, h1, h2, h3, h4⟩ := ih (by omega)
    obtain ⟨u, hu, hr, ho⟩ := h n _ (List.getElem?_eq_getElem (by omega))
    refine ⟨us ++ [u], by simp [h1], ?_, fun x hx => ?_, fun j x hx => ?_⟩
    · rw [List.take_succ_eq_append_getElem (by omega)]
      exact h2.append (.cons hr .nil)
    · rcases List.mem_append.1 hx with hx | hx
      · exact h3 x hx
      · simp at hx; subst hx; exact ho
    · by_cases hj : j < us.length
      · rw [List.getElem?_append_left hj] at hx; exact h4 j x hx
      · rw [List.getElem?_append_right (by omega)] at hx
        have : j - us.length = 0 := by have := (List.getElem?_eq_some_iff.1 hx).1; simp at this; omega
        rw [this] at hx
        simp at hx; subst hx
        rw [show j = n by omega]; exact hu
theorem rd_load {o : Oper} {t : TypeId} {x : Operand} {b : Bool} {i : TypeInfo} {a : AV} {args : List AV} (hs : Sat P w S σ H) (ho : o.op = .load t x) (h1 : aggB P t = some b) (h2 : P.info? t = some i) (hp : RdR P H (.ld i.size b) args a) (hr : Rps w S σ args [ev x]) : Val1 P w S σ ev o a := by
  have hag := run_isAggB (w := w) h1
  cases hp with
  | ld_agg n a ds hat hle =>
    obtain ⟨v, e, h⟩ := hr.one_inv
    injection e with e; subst e
    obtain ⟨g, off, hx, hl⟩ := at_sound hs hat h
    obtain ⟨us, k1, k2, k3, k4⟩ := lies_list hl hle
    refine ⟨.agg us.toArray, ?_, Rps.agg (by simpa using k2) (fun u hu => k3 u (by simpa using hu))⟩
    have := run_loadCells_list (P := P) w ⟨g, off, none⟩ us (fun j u hu => by rw [addr_add]; exact k4 j u hu)
    rw [k1] at this
    simp [execOp, ho, Instr.loadAt, hx, Instr.sureAddr, loadVar, hag, sizeOf, typeInfo, h2, this]
  | ld_one n a b ds hat hb =>
    obtain ⟨v, e, h⟩ := hr.one_inv
    injection e with e; subst e
    obtain ⟨g, off, hx, hl⟩ := at_sound hs hat h
    obtain ⟨u, hu, hru, _⟩ := hl 0 _ hb
    refine ⟨u, ?_, hru⟩
    simp [execOp, ho, Instr.loadAt, hx, Instr.sureAddr, loadVar, hag, show w.cell? ⟨g, off, none⟩ = some u from hu]
theorem flat_elem {sz : Nat} : ∀ {es : List (List AV)} (_ : ∀ e ∈ es, e.length = sz) (i : Nat) (e : List AV) (j : Nat) (a : AV), es[i]? = some e → e[j]? = some a → es.flatten[i * sz + j]? = some a
  | [], _, i, e, j, a, he, _ => by simp at he
  | x :: es, hl, i, e, j, a, he, ha => by
    have hx : x.length = sz := hl x (by simp)
    rw [List.flatten_cons]
    cases i with
    | zero =>
      simp at he; subst he
      rw [Nat.zero_mul, Nat.zero_add, List.getElem?_append_left (List.getElem?_eq_some_iff.1 ha).1]; exact ha
    | succ i =>
      rw [List.getElem?_append_right (by rw [hx, Nat.add_mul]; omega), hx, show (i + 1) * sz + j - sz = i * sz + j by rw [Nat.add_mul]; omega]
      exact flat_elem (fun e he => hl e (by simp [he])) i e j a (by simpa using he) ha
theorem flat_length {sz : Nat} : ∀ {es : List (List AV)} (_ : ∀ e ∈ es, e.length = sz), es.flatten.length = es.length * sz
  | [], _ => by simp
  | x :: es, hl => by
    rw [List.flatten_cons, List.length_append, flat_length fun e he => hl e (by simp [he]), hl x (by simp), List.length_cons, Nat.add_mul]; omega
/-- what a slice's elements read as -/
def Elts (w : World) (S : Nat → Prop) (σ : Nat → Option Value) (sz : Nat) (A : Option Addr) (ys : List (List AV)) : Prop :=
  (∀ e ∈ ys, e.length = sz) ∧ ∃ us : List Value, us.length = ys.length * sz ∧ Rps w S σ ys.flatten us ∧ (∀ u ∈ us, u.oneCell' = true) ∧ ∀ (j : Nat) (u : Value), us[j]? = some u → ∃ g o, A = some ⟨g, o, none⟩ ∧ w.cell? ⟨g, o + j, none⟩ = some u
theorem elts_of {sz : Nat} {A : Option Addr} : ∀ {ys : List (List AV)} (_ : ∀ e ∈ ys, e.length = sz) (n : Nat) (_ : n = ys.length)
    (_ : ∀ (i : Nat) (e : List AV) (j : Nat) (a : AV), ys[i]? = some e → e[j]? = some a → ∃ g o u, A = some ⟨g, o, none⟩ ∧ w.cell? ⟨g, o + i * sz + j, none⟩ = some u ∧ Rp w S σ a u ∧ u.oneCell' = true), Elts w S σ sz A ys := by
  intro ys hl n hn h
  have flat : ∀ m, m ≤ ys.flatten.length → ∃ us : List Value, us.length = m ∧ Rps w S σ (ys.flatten.take m) us ∧ (∀ u ∈ us, u.oneCell' = true) ∧ ∀ (j : Nat) (u : Value), us[j]? = some u → ∃ g o, A = some ⟨g, o, none⟩ ∧ w.cell? ⟨g, o + j, none⟩ = some u := by
    intro m
    induction m with
    | zero => intro _; exact ⟨[], rfl, by rw [List.take_zero]; exact .nil, by simp, by simp⟩
    | succ m ih =>
      intro hm
      obtain ⟨us, h1, h2, h3, h4⟩ := ih (by omega)
      have hfl := flat_length hl
      have hsz : 0 < sz := by
        rcases Nat.eq_zero_or_pos sz with h0 | h0
        · rw [h0, Nat.mul_zero] at hfl; omega
        · exact h0
      have hq : m / sz < ys.length := by rw [Nat.div_lt_iff_lt_mul hsz]; omega
      have hr : m % sz < (ys[m / sz]).length := by rw [hl _ (List.getElem_mem hq)]; exact Nat.mod_lt _ hsz
      have hm' : m / sz * sz + m % sz = m := by rw [Nat.mul_comm]; exact Nat.div_add_mod m sz
      have hfe := flat_elem hl (m / sz) _ (m % sz) _ (List.getElem?_eq_getElem hq) (List.getElem?_eq_getElem hr)
      rw [hm'] at hfe
      obtain ⟨g, o, u, rfl, hc, hru, ho⟩ := h (m / sz) _ (m % sz) _ (List.getElem?_eq_getElem hq) (List.getElem?_eq_getElem hr)
      rw [show o + m / sz * sz + m % sz = o + m by omega] at hc
      refine ⟨us ++ [u], by simp [h1], ?_, fun x hx => ?_, fun j x hx => ?_⟩
      · have hlt : m < ys.flatten.length := by omega
        rw [List.take_succ_eq_append_getElem hlt]
        rw [List.getElem?_eq_getElem hlt] at hfe
        injection hfe with hfe
        rw [hfe]
        exact h2.append (.cons hru .nil)
      · rcases List.mem_append.1 hx with hx | hx
        · exact h3 x hx
        · simp at hx; subst hx; exact ho
      · by_cases hj : j < us.length
        · rw [List.getElem?_append_left hj] at hx; exact h4 j x hx
        · rw [List.getElem?_append_right (by omega)] at hx
          have : j - us.length = 0 := by have := (List.getElem?_eq_some_iff.1 hx).1; simp at this; omega
          rw [this] at hx
          simp at hx; subst hx
          exact ⟨g, o, rfl, by rw [show j = m by omega]; exact hc⟩
  obtain ⟨us, h1, h2, h3, h4⟩ := flat ys.flatten.length (Nat.le_refl _)
  rw [List.take_length] at h2
  exact ⟨hl, us, by rw [h1, flat_length hl], h2, h3, h4⟩
theorem sub_at {es : List (List AV)} {off n i : Nat} {e : List AV} (h : ((es.drop off).take n)[i]? = some e) : i < n ∧ es[off + i]? = some e := by
  rw [List.getElem?_take] at h
  split at h
  · rw [List.getElem?_drop] at h; exact ⟨‹_›, h⟩
  · cases h
theorem sub_mem {es : List (List AV)} {off n : Nat} {e : List AV} (h : e ∈ (es.drop off).take n) : e ∈ es := List.mem_of_mem_drop (List.mem_of_mem_take h)
theorem sub_len {es : List (List AV)} {off n : Nat} (h : off + n ≤ es.length) : ((es.drop off).take n).length = n := by rw [List.length_take, List.length_drop]; omega
theorem el_sound (hs : Sat P w S σ H) {sz : Nat} {x : AV} {ys : List (List AV)} {v : Value} (h : ElA H sz x ys) (hr : Rp w S σ x v) : ∃ A c, v = .slice A ys.length c ∧ Elts w S σ sz A ys ∧ ys.length ≤ c ∨ (ys = [] ∧ v = .slice none 0 c ∧ A = none) := by
  cases h with
  | dsl xs =>
    obtain ⟨A, c, z, rfl, r1, r2, r3, r4, r5, r6⟩ := hr.dsl_inv.dsl_inv
    refine ⟨A, c, .inl ⟨rfl, elts_of r3 _ rfl (fun i e j a he ha => ?_), r1⟩⟩
    obtain ⟨g, o, rfl, _, hc⟩ := r4 i e j a he ha
    exact ⟨g, o, _, rfl, hc, .data _ _ (r5 i e j a he ha), r6 _ _⟩
  | row id off n t es hg hle =>
    obtain ⟨A, B, N, c, cc, rfl, hσ, q1, q2, q3⟩ := hr.osl_inv
    obtain ⟨A', c', m1, m2, m3, m4, m5⟩ := hs.obj id _ hg
    rw [hσ] at m1
    simp only [Option.some.injEq, Value.slice.injEq] at m1
    obtain ⟨rfl, rfl, rfl⟩ := m1
    refine ⟨B, cc, .inl ⟨by rw [sub_len hle], elts_of (fun e he => m2 e (sub_mem he)) _ rfl (fun i e j a he ha => ?_), by rw [sub_len hle]; exact q1⟩⟩
    obtain ⟨hi, he'⟩ := sub_at he
    rcases m5 with ⟨_, m5⟩ | ⟨g, o, arr, rfl, k1, k2, k3, k4⟩
    · omega
    · obtain ⟨u, hu, hru⟩ := k4 (off + i) e j a he' ha
      refine ⟨g, o + off * sz, u, ?_, ?_, hru, k3 u (Array.mem_of_getElem? hu)⟩
      · rw [q3 (by omega), Option.map_some, addr_add]
      · rw [k1.cell, show o + off * sz + i * sz + j = o + (off + i) * sz + j by rw [Nat.add_mul]; omega]; exact hu
  | crow id off n cr t es hg hle =>
    obtain ⟨A, B, N, c, cc, rfl, hσ, q1, q2, q3⟩ := hr.osl_inv
    obtain ⟨A', c', m1, m2, m3, m4, m5⟩ := hs.obj id _ hg
    rw [hσ] at m1
    simp only [Option.some.injEq, Value.slice.injEq] at m1
    obtain ⟨rfl, rfl, rfl⟩ := m1
    refine ⟨B, cc, .inl ⟨by rw [sub_len hle], elts_of (fun e he => m2 e (sub_mem he)) _ rfl (fun i e j a he ha => ?_), by rw [sub_len hle]; exact q1⟩⟩
    obtain ⟨hi, he'⟩ := sub_at he
    rcases m5 with ⟨_, m5⟩ | ⟨g, o, arr, rfl, k1, k2, k3, k4⟩
    · have := (List.getElem?_eq_some_iff.1 he').1; omega
    · obtain ⟨u, hu, hru⟩ := k4 (off + i) e j a he' ha
      refine ⟨g, o + off * sz, u, ?_, ?_, hru, k3 u (Array.mem_of_getElem? hu)⟩
      · rw [q3 (by omega), Option.map_some, addr_add]
      · rw [k1.cell, show o + off * sz + i * sz + j = o + (off + i) * sz + j by rw [Nat.add_mul]; omega]; exact hu
  | frz id off n es hg hle =>
    obtain ⟨A, B, N, c, cc, rfl, hσ, q1, q2, q3⟩ := hr.osl_inv
    obtain ⟨A', c', m1, m2⟩ := hs.obj id _ hg
    rw [hσ] at m1
    simp only [Option.some.injEq, Value.slice.injEq] at m1
    obtain ⟨rfl, rfl, rfl⟩ := m1
    obtain ⟨A', c', z, e1, r1, r2, r3, r4, r5, r6⟩ := m2.dsl_inv
    simp only [Value.slice.injEq] at e1
    obtain ⟨rfl, _, rfl⟩ := e1
    refine ⟨B, cc, .inl ⟨by rw [sub_len hle], elts_of (fun e he => r3 e (sub_mem he)) _ rfl (fun i e j a he ha => ?_), by rw [sub_len hle]; exact q1⟩⟩
    obtain ⟨hi, he'⟩ := sub_at he
    obtain ⟨g, o, rfl, _, hc⟩ := r4 (off + i) e j a he' ha
    refine ⟨g, o + off * sz, _, ?_, ?_, .data _ _ (r5 (off + i) e j a he' ha), r6 _ _⟩
    · rw [q3 (by omega), Option.map_some, addr_add]
    · rw [show o + off * sz + i * sz + j = o + (off + i) * sz + j by rw [Nat.add_mul]; omega]; exact hc
  | nil_ A c => exact ⟨A, c, .inl ⟨hr.p_inv.1, elts_of (by simp) _ rfl (fun i e j a he _ => by simp at he), Nat.zero_le _⟩⟩
theorem strE_len (q : ByteArray) : (strE q).length = q.size := by rw [strE, List.length_map, Array.length_toList]; rfl
theorem strE_flat (l : List UInt8) : (l.map fun b => [AV.p (.int .u8 b.toNat)]).flatten = l.map fun b => .p (.int .u8 b.toNat) := by
  induction l with
  | nil => rfl
  | cons a r ih => simp [ih]
theorem strE_rps (q : ByteArray) : Rps w S σ (strE q).flatten (q.data.toList.map fun b => .int .u8 b.toNat) := by
  unfold strE
  rw [strE_flat]
  refine ⟨by simp, fun i a v ha hv => ?_⟩
  rw [List.getElem?_map] at ha hv
  cases h : q.data.toList[i]? with
  | none => rw [h] at ha; cases ha
  | some b =>
    rw [h] at ha hv
    injection ha with ha; injection hv with hv
    subst ha hv
    exact .data _ _ (.p _ rfl)
theorem rd_bstr {o : Oper} {s d e : TypeId} {x : Operand} {a : AV} {args : List AV} (hs : Sat P w S σ H) (ho : o.op = .convert s d x) (h1 : P.underlying s = some (.slice e)) (h2 : P.underlying d = some .string) (h3 : P.underlying e = some (.int .u8))
    (hp : RdR P H .bstr args a) (hr : Rps w S σ args [ev x]) : Val1 P w S σ ev o a := by
  cases hp with
  | bstr xa q hel =>
    obtain ⟨v, e1, hx⟩ := hr.one_inv
    injection e1 with e1; subst e1
    have hl := strE_len q
    obtain ⟨A, c, hv⟩ := el_sound hs hel hx
    refine ⟨.string q, ?_, .data _ _ (.p _ rfl)⟩
    rcases hv with ⟨hv, ⟨_, us, h4, h5, _, h7⟩, _⟩ | ⟨hn, hv, _⟩
    · have hus : us = q.data.toList.map fun b => .int .u8 b.toNat := by
        refine List.ext_getElem? fun i => ?_
        by_cases hi : i < us.length
        · obtain ⟨g1, g2⟩ := h5
          have hb : ((strE q).flatten)[i]? = some (.p (.int .u8 (q.data.toList[i]'(by rw [h4, hl] at hi; simpa using hi)).toNat)) := by
            unfold strE
            rw [strE_flat, List.getElem?_map, List.getElem?_eq_getElem (by rw [h4, hl] at hi; simpa using hi)]; rfl
          have := (g2 i _ _ hb (List.getElem?_eq_getElem hi)).p_inv.1
          rw [List.getElem?_eq_getElem hi, this, List.getElem?_map, List.getElem?_eq_getElem (by rw [h4, hl] at hi; simpa using hi)]; rfl
        · rw [List.getElem?_eq_none (by omega), List.getElem?_eq_none (by rw [List.length_map, Array.length_toList]; rw [h4, hl] at hi; simpa using hi)]
      have hq : q = ⟨q.data.toList.toArray⟩ := by cases q; simp
      cases A with
      | none =>
        have hl0 : q.data.toList = [] := by
          cases hd : q.data.toList with
          | nil => rfl
          | cons b r => rw [hd] at hus; obtain ⟨g, o', e, _⟩ := h7 0 (.int .u8 b.toNat) (by rw [hus]; rfl); cases e
        have hq0 : q = .empty := by rw [hq, hl0]; rfl
        simp only [execOp, ho, hv]
        rw [Sem.run_bind, run_convert_bytes_string w s d e none _ c h1 h3 h2]
        simp [Conv.bytesToString, hq0, Result.andThen]
      | some b =>
        have hll : (strE q).length = q.data.toList.length := by rw [hl, Array.length_toList]; rfl
        simp only [execOp, ho, hv, hll]
        rw [Sem.run_bind, run_convert_bytes_back w s d e b c q.data.toList h1 h3 h2 (fun jj hj => by
          obtain ⟨g, o', e, hc⟩ := h7 jj (.int .u8 (q.data.toList[jj]).toNat) (by rw [hus, List.getElem?_map, List.getElem?_eq_getElem hj]; rfl)
          injection e with e; subst e
          rw [addr_add]; exact hc)]
        simp [Result.andThen, ← hq]
    · have hl0 : q.data.toList = [] := by
        have : q.data.toList.length = 0 := by rw [hn] at hl; rw [Array.length_toList]; exact hl.symm
        exact List.eq_nil_of_length_eq_zero this
      have hq0 : q = .empty := by
        have hq : q = ⟨q.data.toList.toArray⟩ := by cases q; simp
        rw [hq, hl0]; rfl
      simp only [execOp, ho, hv]
      rw [Sem.run_bind, run_convert_bytes_string w s d e none _ c h1 h3 h2]
      simp [Conv.bytesToString, hq0, Result.andThen]
theorem rd_sound {o : Oper} {ro : RO} {xs : List Operand} {args : List AV} {a : AV} (hs : Sat P w S σ H) (hc : clsR P o.op = some (ro, xs)) (hp : RdR P H ro args a) (hr : Rps w S σ args (xs.map ev)) : Val1 P w S σ ev o a := by
  cases ho : o.op <;> rw [ho] at hc <;> simp only [clsR] at hc <;> try (cases hc; done)
  case load t x =>
    cases h1 : aggB P t with
    | none => rw [h1] at hc; cases hc
    | some b =>
      cases h2 : P.info? t with
      | none => rw [h1, h2] at hc; cases hc
      | some i =>
        rw [h1, h2] at hc
        simp only [Option.some.injEq, Prod.mk.injEq] at hc
        obtain ⟨rfl, rfl⟩ := hc
        exact rd_load hs ho h1 h2 hp hr
  case lookup t x k ok =>
    cases h1 : P.underlying t with
    | none => rw [h1] at hc; cases hc
    | some d =>
      rw [h1] at hc
      cases d <;> (try simp only at hc) <;> try (cases hc; done)
      rename_i kt e
      have key : ∃ z zv, ro = .look kt z ok ∧ xs = [x, k] ∧ (zeroValue e).run P w = .ok zv w ∧ Rp w S σ z zv := by
        cases hz : zeroV P e with
        | none => rw [hz] at hc; cases hc
        | some z =>
          rw [hz] at hc
          simp only [Option.some.injEq, Prod.mk.injEq] at hc
          obtain ⟨v, hv, q1⟩ := zeroV_run (P := P) (w := w) (S := S) (σ := σ) hz
          exact ⟨z, v, hc.1.symm, hc.2.symm, hv, q1⟩
      obtain ⟨z, zv, rfl, rfl, hz, hrz⟩ := key
      have run : ∀ (id n : Nat) (f : Value → Option AV) (ka : AV) (u : Value), args = [.mp id, ka] → H.get id = some (.map kt n f) → Keyed P kt → ka.val = some u → (keyOf P kt u).isSome = true →
          ∃ f' : Value → Option Value, (execOp ev o).run P w = .ok (.value (if ok then .tuple #[(f' u).getD zv, .bool (f' u).isSome] else (f' u).getD zv)) w ∧ ((f u = none ∧ f' u = none) ∨ ∃ a v, f u = some a ∧ f' u = some v ∧ Rp w S σ a v) := by
        intro id n f ka u hargs hg K hu hk
        subst hargs
        obtain ⟨v1, v2, e1, q1, q2⟩ := hr.two_inv
        simp only [List.map_cons, List.map_nil, List.cons.injEq, and_true] at e1
        obtain ⟨rfl, rfl⟩ := e1
        obtain ⟨g, hx, hσ⟩ := q1.mp_inv
        have hku := AV.val_sound hu q2
        obtain ⟨g', f', m1, m2, m3⟩ := hs.obj id _ hg
        rw [hσ] at m1
        simp only [Option.some.injEq, Value.map.injEq] at m1
        subst m1
        refine ⟨f', ?_, m3 u⟩
        have := m2.lookAny ok K h1 hz hk
        simp [execOp, ho, hx, hku, this]
      cases hp with
      | look_no _ _ _ id n f ka u hg K hu hk hf =>
        obtain ⟨f', hrun, hff⟩ := run id n f ka u rfl hg K hu hk
        rcases hff with ⟨_, hff⟩ | ⟨a, v, hff, _⟩
        · rw [hff] at hrun
          cases ok
          · exact ⟨_, hrun, hrz⟩
          · exact ⟨_, hrun, Rps.tup (by simpa using Rps.cons hrz (.cons (.data _ _ (.p _ rfl)) .nil))⟩
        · rw [hf] at hff; cases hff
      | look_yes _ _ b _ id n f ka u hg K hu hk hf =>
        obtain ⟨f', hrun, hff⟩ := run id n f ka u rfl hg K hu hk
        rcases hff with ⟨hff, _⟩ | ⟨a, v, hff, hfv, hra⟩
        · rw [hf] at hff; cases hff
        · rw [hf] at hff
          injection hff with hff
          subst hff
          rw [hfv] at hrun
          cases ok
          · exact ⟨_, hrun, hra⟩
          · exact ⟨_, hrun, Rps.tup (by simpa using Rps.cons hra (.cons (.data _ _ (.p _ rfl)) .nil))⟩
  case convert s d x =>
    revert hc
    split
    · rename_i e h1 h2
      split
      · rename_i h3
        intro hc
        simp only [Option.some.injEq, Prod.mk.injEq] at hc
        obtain ⟨rfl, rfl⟩ := hc
        exact rd_bstr hs ho h1 h2 h3 hp hr
      · intro hc; cases hc
    · intro hc; cases hc
end
end Go.Proofs.Ytgkkilbeingleaa

/- Operations that lay new things, on abstract memory. Nothing of the program is named here. -/
namespace Go.Proofs.Ytgkkilbeingleaa
open Go.RowKit Go.Maps

inductive AOp where
  | nw (t : TypeId) (z : List AV)
  | bx (t : TypeId)
  | bs (t sz len : Nat) (z : List AV) (pl : List (Nat × Nat))
  | ms (t sz bytes : Nat) (z : List AV)
  | mm (kt : TypeId)
inductive AlR (id : Nat) : AOp → List AV → AO → AV → Prop
  | nw (t : TypeId) (z : List AV) : AlR id (.nw t z) [] (.box t z) (.ptr id 0)
  | bx (t : TypeId) (a : AV) : a.part = true → AlR id (.bx t) [a] (.box t a.cells) (.ptr id 0)
  | bs (t sz len : Nat) (z : List AV) (pl : List (Nat × Nat)) (xs : List AV) (es : List (List AV)) : xs.all AV.part = true → es.length = len → (∀ e ∈ es, e.length = sz) → fillA (List.replicate len z).flatten pl xs = some es.flatten →
      AlR id (.bs t sz len z pl) xs (.row t sz es) (.osl id sz 0 len)
  | ms (t sz bytes : Nat) (z : List AV) (k k' : IntKind) (l c : Int) : 0 ≤ l → l ≤ c → c ≤ maxLen → c * bytes ≤ 140737488355328 → AlR id (.ms t sz bytes z) [.p (.int k l), .p (.int k' c)] (.row t sz (List.replicate l.toNat z)) (.osl id sz 0 l.toNat)
  | mm (kt : TypeId) : AlR id (.mm kt) [] (.map kt 0 (fun _ => none)) (.mp id)
def clsA (P : Program) (o : Op) : Option (AOp × List Operand) :=
  match o with
  | .alloc t => (zeroA P t).map fun z => (.nw t z, [])
  | .box t x => some (.bx t, [x])
  | .buildSlice t len parts => match P.underlying t with
    | some (.slice e) => match zeroA P e, P.info? e with
      | some z, some j => if j.size = 0 ∨ z.length ≠ j.size ∨ len * j.size > 2 ^ 24 ∨ len > maxLen then none else some (.bs e j.size len z (parts.toList.map fun x => (x.1 * j.size, j.size)), parts.toList.map (·.2))
      | _, _ => none
    | _ => none
  | .makeSlice t l c => match P.underlying t with
    | some (.slice e) => match zeroA P e, P.info? e with
      | some z, some j => if j.size = 0 ∨ z.length ≠ j.size then none else some (.ms e j.size j.bytes z, [l, c])
      | _, _ => none
    | _ => none
  | .makeMap t r => match P.underlying t, r with
    | some (.map kt _), none => some (.mm kt, [])
    | some (.map kt _), some (.const (.int _ _)) => some (.mm kt, [])
    | _, _ => none
  | _ => none

/-- what an operation does -/
def Eff (P : Program) (w : World) (S : Nat → Prop) (σ : Nat → Option Value) (H : AH) (ev : Operand → Value) (o : Oper) (id : Nat) (a : AV) (H' : AH) : Prop :=
  ∃ nx w' σ', (execOp ev o).run P w = .ok nx w' ∧ ((∃ v, nx = .value v ∧ Rp w' S σ' a v) ∨ (nx = .skip ∧ a = .any)) ∧ Sat P w' S σ' H' ∧ Ext w S σ H w' S σ' H' ∧ ∀ j, j ≠ id → σ' j = σ j

section
variable {P : Program} {w : World} {S : Nat → Prop} {σ : Nat → Option Value} {ev : Operand → Value} {H : AH}
theorem flat_at {z : List AV} (hz : 0 < z.length) : ∀ (n i : Nat), i < n * z.length → (List.replicate n z).flatten[i]? = z[i % z.length]?
  | 0, i, h => by simp at h
  | n + 1, i, h => by
    rw [List.replicate_succ, List.flatten_cons]
    by_cases hi : i < z.length
    · rw [List.getElem?_append_left hi, Nat.mod_eq_of_lt hi]
    · rw [List.getElem?_append_right (by omega), flat_at hz n (i - z.length) (by rw [Nat.add_mul, Nat.one_mul] at h; omega), Nat.mod_eq_sub_mod (a := i) (by omega)]
theorem flat_len {z : List AV} (n : Nat) : (List.replicate n z).flatten.length = n * z.length := by
  induction n with
  | zero => simp
  | succ n ih => rw [List.replicate_succ, List.flatten_cons, List.length_append, ih, Nat.add_mul]; omega
theorem zeros_rep {z : List AV} {zs : Array Value} (hr : Rps w S σ z zs.toList) (h1 : ∀ u ∈ zs, u.oneCell' = true) (hz : 0 < z.length) (n : Nat) :
    Rps w S σ (List.replicate n z).flatten ((Array.range (n * zs.size)).map (zs[· % zs.size]!)).toList ∧ ∀ u ∈ (Array.range (n * zs.size)).map (zs[· % zs.size]!), u.oneCell' = true := by
  have hl : z.length = zs.size := by rw [hr.1, Array.length_toList]
  have hat : ∀ i, i < n * zs.size → ∃ u, ((Array.range (n * zs.size)).map (zs[· % zs.size]!))[i]? = some u ∧ zs[i % zs.size]? = some u := by
    intro i hi
    have hm : i % zs.size < zs.size := Nat.mod_lt _ (by omega)
    refine ⟨zs[i % zs.size], ?_, Array.getElem?_eq_getElem hm⟩
    simp [hi, hm]
  refine ⟨⟨by rw [flat_len, hl]; simp, fun i a v ha hv => ?_⟩, fun u hu => ?_⟩
  · have hi : i < n * z.length := by rw [← flat_len]; exact (List.getElem?_eq_some_iff.1 ha).1
    rw [flat_at hz n i hi] at ha
    obtain ⟨u, q1, q2⟩ := hat i (by rw [← hl]; exact hi)
    rw [Array.getElem?_toList, q1] at hv
    injection hv with hv
    subst hv
    exact hr.2 _ a _ ha (by rw [hl, Array.getElem?_toList]; exact q2)
  · obtain ⟨i, hi⟩ := Array.getElem?_of_mem hu
    have hlt : i < n * zs.size := by have := (Array.getElem?_eq_some_iff.1 hi).1; simpa using this
    obtain ⟨x, q1, q2⟩ := hat i hlt
    rw [q1] at hi
    injection hi with hi
    subst hi
    exact h1 _ (Array.mem_of_getElem? q2)
theorem alloc_keep (w : World) (o : Obj) : ∀ b, b < w.heap.size → (w.alloc o).heap[b]? = w.heap[b]? := fun b hb => Below.heap_alloc w o b hb
/-- a new block -/
theorem new_eff (hs : Sat P w S σ H) {w1 : World} (hw1 : w1.heap = w.heap ∧ w1.os = w.os ∧ w1.tape = w.tape ∧ w1.output = w.output) {id : Nat} (hid : id < H.nx) (hσ : σ id = none) {o' : AO} {u : Value} {ob : Obj} {o : Oper} {a : AV}
    (hu : blkOf u = some w.heap.size) (hobj : ObjOk P (w1.alloc ob) S (sput σ id u) id o') (hsl : ∀ A n c, u = .slice A n c → n ≤ c ∧ (0 < c → ∃ g o, A = some ⟨g, o, none⟩) ∧ c ≤ maxLen)
    {v : Value} (hrun : (execOp ev o).run P w = .ok (.value v) (w1.alloc ob)) (ha : Rp (w1.alloc ob) S (sput σ id u) a v) : Eff P w S σ H ev o id a (H.put id o') := by
  obtain ⟨e1, e2, e3, e4⟩ := hw1
  have hnone : ∀ x, σ id = some x → x = u := fun x hx => by rw [hσ] at hx; cases hx
  have hkeep : ∀ b, b < w.heap.size → (w1.alloc ob).heap[b]? = w.heap[b]? := fun b hb => (alloc_keep w1 ob b (by rw [e1]; exact hb)).trans (by rw [e1])
  have hsz : w.heap.size ≤ (w1.alloc ob).heap.size := by simp [e1]
  refine ⟨_, _, sput σ id u, hrun, .inl ⟨v, rfl, ha⟩, hs.upd hid hnone hsz (fun b hb _ => hkeep b hb) (fun b hb => ?_) hobj (fun j o b h1 h2 h3 => hs.lt h1 h2 h3) hsl,
    Ext.upd hs hnone e2 e3 e4 hsz (fun b hb _ => hkeep b hb) (fun b hb => ?_), fun j hj => sput_ne hj⟩
  · rw [hu] at hb; injection hb with hb; subst hb
    exact ⟨fun h => Nat.lt_irrefl _ (hs.sb _ h), fun j o _ h1 h2 h3 => Nat.lt_irrefl _ (hs.lt h1 h2 h3)⟩
  · rw [hu] at hb; injection hb with hb; subst hb; exact .inr (Nat.le_refl _)
theorem Rps.new {cs : List AV} {vs : List Value} (h : Rps w S σ cs vs) (hs : Sat P w S σ H) (ob : Obj) {id : Nat} {u : Value} (hσ : σ id = none) : Rps (w.alloc ob) S (sput σ id u) cs vs :=
  h.mono (fun _ h => h) (fun b hb => alloc_keep w ob b (hs.sb b hb)) (sput_ext fun x hx => by rw [hσ] at hx; cases hx)
theorem box_eff (hs : Sat P w S σ H) {id : Nat} (hid : id < H.nx) (hσ : σ id = none) {t : TypeId} {cs : List AV} {arr : Array Value} {o : Oper} (hr : Rps w S σ cs arr.toList) (h1 : ∀ u ∈ arr, u.oneCell' = true)
    (hrun : (execOp ev o).run P w = .ok (.value (.pointer (some ⟨w.heap.size, 0, none⟩))) (w.alloc (.cells arr t))) : Eff P w S σ H ev o id (.ptr id 0) (H.put id (.box t cs)) :=
  new_eff hs ⟨rfl, rfl, rfl, rfl⟩ hid hσ (u := .pointer (some ⟨w.heap.size, 0, none⟩)) rfl ⟨_, arr, sput_self, Blk.new w t arr, hr.new hs _ hσ, h1⟩ (fun _ _ _ h => by cases h) hrun (.ptr id 0 _ sput_self)
/-- a new row: cells that begin with the elements -/
theorem row_eff1 (hs : Sat P w S σ H) {w1 : World} (hw1 : w1.heap = w.heap ∧ w1.os = w.os ∧ w1.tape = w.tape ∧ w1.output = w.output) {id : Nat} (hid : id < H.nx) (hσ : σ id = none) {t sz c : Nat} {es : List (List AV)} {arr : Array Value} {o : Oper} {rest : List AV} (hes : ∀ e ∈ es, e.length = sz)
    (hr : Rps w S σ (es.flatten ++ rest) arr.toList) (h1 : ∀ u ∈ arr, u.oneCell' = true)
    (hc : es.length ≤ c) (hcm : c ≤ maxLen) (hcs : c * sz ≤ arr.size)
    (hrun : (execOp ev o).run P w = .ok (.value (.slice (some ⟨w.heap.size, 0, none⟩) es.length c)) (w1.alloc (.cells arr t))) : Eff P w S σ H ev o id (.osl id sz 0 es.length) (H.put id (.row t sz es)) := by
  have hr' : Rps (w1.alloc (.cells arr t)) S (sput σ id (.slice (some ⟨w.heap.size, 0, none⟩) es.length c)) (es.flatten ++ rest) arr.toList :=
    hr.mono (fun _ h => h) (fun b hb => (alloc_keep w1 _ b (by rw [hw1.1]; exact hs.sb b hb)).trans (by rw [hw1.1])) (sput_ext fun x hx => by rw [hσ] at hx; cases hx)
  have hbn : Blk (w1.alloc (.cells arr t)) w.heap.size t arr := by rw [← hw1.1]; exact Blk.new w1 t arr
  refine new_eff hs hw1 hid hσ (u := .slice (some ⟨w.heap.size, 0, none⟩) es.length c) rfl ⟨_, c, sput_self, hes, hc, hcm, .inr ⟨w.heap.size, 0, arr, rfl, hbn, by omega, h1, fun i e j a he ha => ?_⟩⟩ ?_ hrun ?_
  · have hf := flat_elem hes i e j a he ha
    have hlt := (List.getElem?_eq_some_iff.1 hf).1
    obtain ⟨v, hv, hrv⟩ := hr'.at_ (i := i * sz + j) (a := a) (by rw [List.getElem?_append_left hlt]; exact hf)
    rw [Array.getElem?_toList] at hv
    exact ⟨v, by rw [Nat.zero_add]; exact hv, hrv⟩
  · intro A n c' h
    injection h with h1 h2 h3
    subst h1; subst h2; subst h3
    exact ⟨hc, fun _ => ⟨_, _, rfl⟩, hcm⟩
  · exact .osl _ _ _ _ _ _ es.length c c sput_self hc (by omega) (fun _ => by simp [addr_add])
theorem row_eff (hs : Sat P w S σ H) {id : Nat} (hid : id < H.nx) (hσ : σ id = none) {t sz c : Nat} {es : List (List AV)} {arr : Array Value} {o : Oper} {rest : List AV} (hes : ∀ e ∈ es, e.length = sz) (hr : Rps w S σ (es.flatten ++ rest) arr.toList) (h1 : ∀ u ∈ arr, u.oneCell' = true)
    (hc : es.length ≤ c) (hcm : c ≤ maxLen) (hcs : c * sz ≤ arr.size)
    (hrun : (execOp ev o).run P w = .ok (.value (.slice (some ⟨w.heap.size, 0, none⟩) es.length c)) (w.alloc (.cells arr t))) : Eff P w S σ H ev o id (.osl id sz 0 es.length) (H.put id (.row t sz es)) :=
  row_eff1 hs ⟨rfl, rfl, rfl, rfl⟩ hid hσ hes hr h1 hc hcm hcs hrun
theorem al_sound (hev : ∀ v, ev (.const v) = v) {o : Oper} {ao : AOp} {xs : List Operand} {args : List AV} {a : AV} {o' : AO} {id : Nat} (hs : Sat P w S σ H) (hid : id < H.nx) (hσ : σ id = none) (hc : clsA P o.op = some (ao, xs)) (hp : AlR id ao args o' a) (hr : Rps w S σ args (xs.map ev)) : Eff P w S σ H ev o id a (H.put id o') := by
  cases ho : o.op <;> rw [ho] at hc <;> simp only [clsA] at hc <;> try (cases hc; done)
  case alloc t =>
    cases hz : zeroA P t with
    | none => rw [hz] at hc; cases hc
    | some z =>
      rw [hz] at hc
      simp only [Option.map_some, Option.some.injEq, Prod.mk.injEq] at hc
      obtain ⟨rfl, rfl⟩ := hc
      cases hp
      obtain ⟨v, hv, _, q1, q2⟩ := zeroA_run (P := P) (w := w) (S := S) (σ := σ) hz
      exact box_eff hs hid hσ q1 q2 (by simp [execOp, ho, Instr.alloc, hv, newVar, newRow])
  case box t x =>
    simp only [Option.some.injEq, Prod.mk.injEq] at hc
    obtain ⟨rfl, rfl⟩ := hc
    cases hp with
    | bx _ a hpart =>
      obtain ⟨v, e, h⟩ := hr.one_inv
      injection e with e; subst e
      obtain ⟨q1, q2⟩ := h.cells hpart
      exact box_eff hs hid hσ q1 q2 (by simp [execOp, ho, Instr.box, newVar, newRow])
  case buildSlice t len parts =>
    cases hu : P.underlying t with
    | none => rw [hu] at hc; cases hc
    | some d =>
      rw [hu] at hc
      cases d <;> (try simp only at hc) <;> try (cases hc; done)
      rename_i e
      cases hz : zeroA P e with
      | none => rw [hz] at hc; cases hc
      | some z =>
        cases hi : P.info? e with
        | none => rw [hz, hi] at hc; cases hc
        | some j =>
          rw [hz, hi] at hc
          simp only at hc
          split at hc
          · cases hc
          · rename_i hcond
            simp only [not_or, ne_eq, Decidable.not_not] at hcond
            obtain ⟨c1, c2, c3, c4⟩ := hcond
            simp only [Option.some.injEq, Prod.mk.injEq] at hc
            obtain ⟨rfl, rfl⟩ := hc
            cases hp with
            | bs _ _ _ _ _ _ es hall hlen hes hf =>
              subst hlen
              obtain ⟨v, hv, _, q1, q2⟩ := zeroA_run (P := P) (w := w) (S := S) (σ := σ) hz
              have hzl : v.cells.size = j.size := by rw [← c2, q1.1, Array.length_toList]
              obtain ⟨z1, z2⟩ := zeros_rep q1 q2 (by omega) es.length
              rw [hzl] at z1 z2
              have hxs : ((parts.map fun x => (x.1, ev x.2)).toList).map (·.2) = (parts.toList.map (·.2)).map ev := by simp
              obtain ⟨us, g1, g2, g3⟩ := fill_sound (place := fun i => some (i * j.size, j.size)) (parts.map fun x => (x.1, ev x.2)).toList (parts.toList.map fun x => (x.1 * j.size, j.size)) args _ es.flatten _ hall (by rw [hxs]; exact hr) (by simp) hf z1 z2
              have husz : us.size = es.length * j.size := by rw [← Array.length_toList, ← g2.1, flat_length hes]
              refine row_eff hs hid hσ (c := es.length) (rest := []) hes (by simpa using g2) g3 (Nat.le_refl _) (by omega) (by omega) ?_
              by_cases h0 : es.length = 0
              · have hes0 : es = [] := List.eq_nil_of_length_eq_zero h0
                subst hes0
                simp only [List.length_nil, Nat.zero_mul, Array.range_zero', Array.map_empty] at g1 husz ⊢
                have g2' : Instr.fill (fun i => some (i * j.size, j.size)) #[] (List.map (fun x => (x.fst, ev x.snd)) parts.toList) = some us := by simpa using g1
                simp [execOp, ho, Instr.buildSlice, run_underlying hu, sizeOf, typeInfo, hi, Array.range_zero', g2', newRow]
              · have hne : ¬ es.length * j.size = 0 := Nat.mul_ne_zero h0 c1
                have hle : ¬ (2 ^ 24 < es.length * j.size) := by omega
                have hzz : j.zero = some v := by
                  cases hzz : j.zero with
                  | none => simp [zeroValue, typeInfo, hi, hzz] at hv
                  | some v' => simp [zeroValue, typeInfo, hi, hzz] at hv; rw [hv]
                have := run_buildSlice (P := P) w t e es.length (parts.map fun x => (x.1, ev x.2)) us j v hu hi hzz (by omega) hne (by rw [hzl]; exact g1)
                simp [execOp, ho, this]
  case makeSlice t l c =>
    cases hu : P.underlying t with
    | none => rw [hu] at hc; cases hc
    | some d =>
      rw [hu] at hc
      cases d <;> (try simp only at hc) <;> try (cases hc; done)
      rename_i e
      cases hz : zeroA P e with
      | none => rw [hz] at hc; cases hc
      | some z =>
        cases hi : P.info? e with
        | none => rw [hz, hi] at hc; cases hc
        | some j =>
          rw [hz, hi] at hc
          simp only at hc
          split at hc
          · cases hc
          · rename_i hcond
            simp only [not_or, ne_eq, Decidable.not_not] at hcond
            obtain ⟨c1, c2⟩ := hcond
            simp only [Option.some.injEq, Prod.mk.injEq] at hc
            obtain ⟨rfl, rfl⟩ := hc
            cases hp with
            | ms _ _ _ _ k k' li ci l0 l1 l2 l3 =>
              obtain ⟨v1, v2, e1, q3, q4⟩ := hr.two_inv
              simp only [List.map_cons, List.map_nil, List.cons.injEq, and_true] at e1
              obtain ⟨rfl, rfl⟩ := e1
              have hx := q3.p_inv.1
              have hy := q4.p_inv.1
              obtain ⟨v, hv, _, q1, q2⟩ := zeroA_run (P := P) (w := w) (S := S) (σ := σ) hz
              have hzl : v.cells.size = j.size := by rw [← c2, q1.1, Array.length_toList]
              obtain ⟨z1, z2⟩ := zeros_rep q1 q2 (by omega) ci.toNat
              have hml : maxLen = 9223372036854775807 := by decide
              have hsplit : (List.replicate ci.toNat z).flatten = (List.replicate li.toNat z).flatten ++ (List.replicate (ci.toNat - li.toNat) z).flatten := by
                rw [← List.flatten_append, List.replicate_append_replicate]; congr 2; omega
              have := row_eff (ev := ev) (o := o) (t := e) (sz := j.size) hs hid hσ (c := ci.toNat) (es := List.replicate li.toNat z) (rest := (List.replicate (ci.toNat - li.toNat) z).flatten) (arr := (Array.range (ci.toNat * v.cells.size)).map (v.cells[· % v.cells.size]!))
                (fun x hx => by rw [List.eq_of_mem_replicate hx]; exact c2) (by rw [← hsplit]; exact z1) z2 (by simp; omega) (by omega) (by simp [hzl]) ?_
              · simpa using this
              · have hzz : j.zero = some v := by
                  cases hzz : j.zero with
                  | none => simp [zeroValue, typeInfo, hi, hzz] at hv
                  | some v' => simp [zeroValue, typeInfo, hi, hzz] at hv; rw [hv]
                have := run_make (P := P) w t e j v hu hi hzz k k' li ci l0 l1 (by rw [Int.mul_comm]; omega) (by omega)
                simp only [madeCells] at this
                simp [execOp, ho, hx, hy, this, hzl]
  case makeMap t r =>
    have fin : ∀ kt, ao = .mm kt → xs = [] → (Instr.makeMap t (r.map ev)).run P w = .ok (.map (some w.heap.size)) (w.alloc (.map #[] 0)) → Eff P w S σ H ev o id a (H.put id o') := by
      intro kt h1 h2 hrun
      subst h1
      cases hp
      exact new_eff hs ⟨rfl, rfl, rfl, rfl⟩ hid hσ (u := .map (some w.heap.size)) rfl ⟨_, fun _ => none, sput_self, MapOf.made w P kt, fun k => .inl ⟨rfl, rfl⟩⟩ (fun _ _ _ h => by cases h) (by simp [execOp, ho, hrun]) (.mp _ _ sput_self)
    revert hc
    split
    · rename_i kt ve h1
      intro hc
      simp only [Option.some.injEq, Prod.mk.injEq] at hc
      exact fin kt hc.1.symm hc.2.symm rfl
    · rename_i kt ve k n h1
      intro hc
      simp only [Option.some.injEq, Prod.mk.injEq] at hc
      refine fin kt hc.1.symm hc.2.symm ?_
      simp [hev, Instr.makeMap, run_underlying h1, asInt, asIntOf]
    · intro hc; cases hc
end
end Go.Proofs.Ytgkkilbeingleaa

/- Operations that write, on abstract memory: stores, appends, maps. Nothing of the program is named here. -/
namespace Go.Proofs.Ytgkkilbeingleaa
open Go.RowKit Go.Maps

open Classical in
noncomputable def putA (f : Value → Option AV) (u : Value) (a : AV) : Value → Option AV := fun x => if x = u then some a else f x
theorem putA_same (f : Value → Option AV) (u : Value) (a : AV) : putA f u a u = some a := by simp [putA]
theorem putA_other (f : Value → Option AV) {u x : Value} (a : AV) (h : x ≠ u) : putA f u a x = f x := by simp [putA, h]
inductive WO where
  | st (n : Nat)
  | app (t sz bytes : Nat)
  | mset (kt : TypeId)
  | apz (t sz bytes : Nat) (z : List AV)
  | clr (sz : Nat) (z : List AV)
  | aps (t sz bytes : Nat)
  | ust (t : Nat)
inductive WrR (P : Program) (id : Nat) : WO → List AV → AH → AV → AH → Prop
  | st_box (n i off : Nat) (t : TypeId) (cs : List AV) (a : AV) (H : AH) : H.get i = some (.box t cs) → a.part = true → a.cells.length = n → off + n ≤ cs.length → WrR P id (.st n) [.ptr i off, a] H .any (H.put i (.box t (cs.take off ++ a.cells ++ cs.drop (off + n))))
  | st_row (n i sz k j : Nat) (t : TypeId) (es : List (List AV)) (e : List AV) (a : AV) (H : AH) : H.get i = some (.row t sz es) → es[k]? = some e → a.part = true → a.cells.length = n → j + n ≤ sz →
      WrR P id (.st n) [.eptr i sz k j, a] H .any (H.put i (.row t sz (es.set k (e.take j ++ a.cells ++ e.drop (j + n)))))
  | app_row (t sz bytes r off n : Nat) (es ys : List (List AV)) (x : AV) (H : AH) : H.get r = some (.row t sz es) → off + n ≤ es.length → ElA H sz x ys → n + ys.length ≤ maxLen → (n + ys.length) * bytes ≤ 140737488355328 →
      WrR P id (.app t sz bytes) [.osl r sz off n, x] H (.osl id sz 0 (n + ys.length)) ((H.kill r).put id (.row t sz ((es.drop off).take n ++ ys)))
  | app_nil (t sz bytes : Nat) (ys : List (List AV)) (x : AV) (H : AH) : ElA H sz x ys → ys.length ≤ maxLen → ys.length * bytes ≤ 140737488355328 →
      WrR P id (.app t sz bytes) [.p (.slice none 0 0), x] H (.osl id sz 0 ys.length) (H.put id (.row t sz ys))
  | mset (kt : TypeId) (i n : Nat) (f : Value → Option AV) (key a : AV) (u : Value) (H : AH) : H.get i = some (.map kt n f) → Keyed P kt → key.val = some u → (keyOf P kt u).isSome = true → n < maxLen → WrR P id (.mset kt) [.mp i, key, a] H .any (H.put i (.map kt (n + 1) (putA f u a)))
  | apz (t sz bytes : Nat) (z : List AV) (k : IntKind) (n : Int) (H : AH) : 0 ≤ n → n ≤ maxLen → n * bytes ≤ 140737488355328 →
      WrR P id (.apz t sz bytes z) [.p (.slice none 0 0), .p (.int k n)] H (.osl id sz 0 n.toNat) (H.put id (.row t sz (List.replicate n.toNat z)))
  | clr (sz r off n : Nat) (z : List AV) (t : TypeId) (es : List (List AV)) (H : AH) : H.get r = some (.row t sz es) → off + n ≤ es.length → WrR P id (.clr sz z) [.osl r sz off n] H .any (H.put r (.row t sz (es.take off ++ List.replicate n z ++ es.drop (off + n))))
  | aps_row (t sz bytes r off n : Nat) (es : List (List AV)) (q : ByteArray) (H : AH) : H.get r = some (.row t sz es) → off + n ≤ es.length → n + (strE q).length ≤ maxLen → (n + (strE q).length) * bytes ≤ 140737488355328 →
      WrR P id (.aps t sz bytes) [.osl r sz off n, .p (.string q)] H (.osl id sz 0 (n + (strE q).length)) ((H.kill r).put id (.row t sz ((es.drop off).take n ++ strE q)))
  | aps_nil (t sz bytes : Nat) (q : ByteArray) (H : AH) : (strE q).length ≤ maxLen → (strE q).length * bytes ≤ 140737488355328 →
      WrR P id (.aps t sz bytes) [.p (.slice none 0 0), .p (.string q)] H (.osl id sz 0 (strE q).length) (H.put id (.row t sz (strE q)))
  | ust_row (t r i n : Nat) (es : List (List AV)) (q : ByteArray) (H : AH) : H.get r = some (.row t 1 es) → 0 < n → i + n ≤ es.length → (es.drop i).take n = strE q → WrR P id (.ust t) [.eptr r 1 i 0, .p (.int .i64 n)] H (.p (.string q)) (H.kill r)
  | ust_nil (t : Nat) (H : AH) : WrR P id (.ust t) [.p (.pointer none), .p (.int .i64 0)] H (.p (.string .empty)) H
def clsW (P : Program) (o : Op) : Option (WO × List Operand) :=
  match o with
  | .store t x v => (P.info? t).map fun i => (.st i.size, [x, v])
  | .mapUpdate t m k v | .insert t m k v => match P.underlying t with
    | some (.map kt _) => some (.mset kt, [m, k, v])
    | _ => none
  | .call c => match c.callee, c.args.toList, c.argTypes.toList with
    | .builtin .append, [s, x], [t, t'] => match P.underlying t with
      | some (.slice e) => match zeroA P e, P.info? e with
        | some z, some j => if t ≠ t' ∨ j.size = 0 ∨ z.length ≠ j.size then (if j.size = 0 ∨ z.length ≠ j.size then none else match P.underlying t' with | some (.int _) => some (.apz e j.size j.bytes z, [s, x]) | some .string => if j.size = 1 then some (.aps e j.size j.bytes, [s, x]) else none | _ => none) else some (.app e j.size j.bytes, [s, x])
        | _, _ => none
      | _ => none
    | .builtin .clear, [s], [t] => match P.underlying t with
      | some (.slice e) => match zeroA P e, P.info? e with
        | some z, some j => if j.size = 0 ∨ z.length ≠ j.size then none else some (.clr j.size z, [s])
        | _, _ => none
      | _ => none
    | .builtin .unsafeString, [p, n], [pt, _] => match P.underlying pt with
      | some (.pointer e) => if P.cellsOf e = 1 then some (.ust e, [p, n]) else none
      | _ => none
    | _, _, _ => none
  | _ => none

section
variable {P : Program} {w : World} {S : Nat → Prop} {σ : Nat → Option Value} {ev : Operand → Value} {H : AH}
theorem splice_get {α : Type} (L vs : List α) (p q : Nat) (h : p + vs.length ≤ L.length) : (L.take p ++ vs ++ L.drop (p + vs.length))[q]? = if q < p then L[q]? else if q < p + vs.length then vs[q - p]? else L[q]? := by
  have hl : (L.take p).length = p := by rw [List.length_take]; omega
  by_cases h1 : q < p
  · rw [if_pos h1, List.append_assoc, List.getElem?_append_left (by omega), List.getElem?_take, if_pos h1]
  · rw [if_neg h1]
    by_cases h2 : q < p + vs.length
    · rw [if_pos h2, List.getElem?_append_left (by rw [List.length_append]; omega), List.getElem?_append_right (by omega), hl]
    · rw [if_neg h2, List.getElem?_append_right (by rw [List.length_append]; omega), List.length_append, hl, List.getElem?_drop]
      congr 1; omega
theorem splice_len {α : Type} (L vs : List α) (p : Nat) (h : p + vs.length ≤ L.length) : (L.take p ++ vs ++ L.drop (p + vs.length)).length = L.length := by
  simp; omega
theorem sput_id {i : Nat} {u : Value} (h : σ i = some u) : sput σ i u = σ := by
  funext k
  unfold sput
  split
  · rename_i e; rw [e, h]
  · rfl
/-- cells of a block of one's own are written -/
theorem set_eff1 (hs : Sat P w S σ H) {i : Nat} {o o' : AO} {u : Value} {g off : Nat} {t : TypeId} {arr : Array Value} {vs : List Value} {op : Oper} {nx : Next}
    (hg : H.get i = some o) (how : o.owned = true) (hσ : σ i = some u) (hu : blkOf u = some g) (hb : Blk w g t arr) {id : Nat} (hii : i < H.nx) (hnx : (∃ v, nx = .value v) ∨ nx = .skip)
    (hrun : (execOp ev op).run P w = .ok nx (w.setRow g (arr.toList.take off ++ vs ++ arr.toList.drop (off + vs.length)).toArray))
    (hobj : ∀ w', (∀ b, b ≠ g → w'.heap[b]? = w.heap[b]?) → Blk w' g t (arr.toList.take off ++ vs ++ arr.toList.drop (off + vs.length)).toArray → ObjOk P w' S σ i o') : Eff P w S σ H ev op id .any (H.put i o') := by
  have hkeep : ∀ b, b ≠ g → (w.setRow g (arr.toList.take off ++ vs ++ arr.toList.drop (off + vs.length)).toArray).heap[b]? = w.heap[b]? := fun b hb => setRow_other w g b _ hb
  have hnone : ∀ x, σ i = some x → x = u := fun x hx => by rw [hσ] at hx; injection hx with hx; exact hx.symm
  have hsp : sput σ i u = σ := sput_id hσ
  have hbk : (σ i).bind blkOf = some g := by rw [hσ]; exact hu
  have hsat := hs.upd (w' := w.setRow g (arr.toList.take off ++ vs ++ arr.toList.drop (off + vs.length)).toArray) (k := i) (o' := o') hii hnone (by simp) (fun b hb hne => hkeep b (fun e => hne (by rw [hu, e]))) (fun b hb => by
      rw [hu] at hb; injection hb with hb; subst hb
      exact ⟨hs.sep i o g hg how hbk, fun k o2 hk h2 h3 h4 => hk (hs.dj k i o2 o g h2 hg h3 how h4 hbk)⟩)
    (by rw [hsp]; exact hobj _ hkeep (setRow_heap w g arr _ t (0, 0) hb)) (fun j o b h1 h2 h3 => hs.lt h1 h2 h3) (fun A n c e => hs.sl i A n c (by rw [hσ, e]))
  have hext := Ext.upd (w' := w.setRow g (arr.toList.take off ++ vs ++ arr.toList.drop (off + vs.length)).toArray) (k := i) (o' := o') hs hnone rfl rfl rfl (by simp) (fun b hb hne => hkeep b (fun e => hne (by rw [hu, e]))) (fun b hb => by
      rw [hu] at hb; injection hb with hb; subst hb; exact .inl ⟨i, o, hg, how, hbk⟩)
  rw [hsp] at hsat hext
  exact ⟨nx, _, σ, hrun, hnx.elim (fun ⟨v, h⟩ => .inl ⟨v, h, .any _⟩) (fun h => .inr ⟨h, rfl⟩), hsat, hext, fun _ _ => rfl⟩
theorem set_eff (hs : Sat P w S σ H) {i : Nat} {o o' : AO} {u : Value} {g off : Nat} {t : TypeId} {arr : Array Value} {vs : List Value} {op : Oper} {T x : Operand} {ty : TypeId} {j : TypeInfo} {v : Value}
    (hop : op.op = .store ty T x) (hi : P.info? ty = some j) (hg : H.get i = some o) (how : o.owned = true) (hσ : σ i = some u) (hu : blkOf u = some g) (hb : Blk w g t arr)
    (hT : ev T = .pointer (some ⟨g, off, none⟩)) (hx : ev x = v) (hv : v.cells.toList = vs) (hvl : vs.length = j.size) (h1 : ∀ u ∈ vs, u.oneCell' = true) (hfit : off + vs.length ≤ arr.size) {id : Nat} (hii : i < H.nx)
    (hobj : ∀ w', (∀ b, b ≠ g → w'.heap[b]? = w.heap[b]?) → Blk w' g t (arr.toList.take off ++ vs ++ arr.toList.drop (off + vs.length)).toArray → ObjOk P w' S σ i o') : Eff P w S σ H ev op id .any (H.put i o') := by
  refine set_eff1 hs hg how hσ hu hb hii (.inr rfl) ?_ hobj
  have := run_storeCells_at (P := P) g off t vs 0 arr w hb (by omega) h1
  simp only [Nat.add_zero] at this
  have hsz : v.cells.size = j.size := by rw [← hvl, ← hv, Array.length_toList]
  simp [execOp, hop, Instr.storeAt, hT, hx, Instr.sureAddr, storeVar, sizeOf, typeInfo, hi, hsz, hv, this]
theorem wr_store {o : Oper} {t : TypeId} {x v : Operand} {j : TypeInfo} {a : AV} {args : List AV} {id : Nat} {H' : AH} (hs : Sat P w S σ H) (ho : o.op = .store t x v) (hi : P.info? t = some j) (hp : WrR P id (.st j.size) args H a H') (hr : Rps w S σ args [ev x, ev v]) :
    Eff P w S σ H ev o id a H' := by
  cases hp with
  | st_box _ i off t' cs a' _ hg hpart hlen hle =>
    obtain ⟨v1, v2, e1, q1, q2⟩ := hr.two_inv
    simp only [List.cons.injEq, and_true] at e1
    obtain ⟨rfl, rfl⟩ := e1
    obtain ⟨g, hx, hσ⟩ := q1.ptr_inv
    obtain ⟨c1, c2⟩ := q2.cells hpart
    obtain ⟨g', arr, m1, m2, m3, m4⟩ := hs.obj i _ hg
    rw [hσ] at m1
    simp only [Option.some.injEq, Value.pointer.injEq, Addr.mk.injEq, and_true] at m1
    subst m1
    have hcl : cs.length = arr.size := by rw [m3.1, Array.length_toList]
    have hvl : (ev v).cells.toList.length = j.size := by rw [← c1.1]; exact hlen
    refine set_eff hs ho hi hg rfl hσ rfl m2 hx rfl rfl hvl (fun u hu => c2 u (Array.mem_toList_iff.1 hu)) (by omega) (hs.dom _ _ hσ) (fun w' hk hb => ⟨g, _, hσ, hb, ?_, fun u hu => ?_⟩)
    · have hS : ∀ b, S b → w'.heap[b]? = w.heap[b]? := fun b hb' => hk b (fun e => hs.sep i _ b hg rfl (by rw [hσ, e]; rfl) hb')
      rw [List.toList_toArray, hvl]
      exact (((m3.take off).append c1).append (m3.drop _)).mono (fun _ h => h) hS (fun _ _ h => h)
    · rw [← Array.mem_toList_iff, List.toList_toArray] at hu
      rcases List.mem_append.1 hu with hu | hu
      · rcases List.mem_append.1 hu with hu | hu
        · exact m4 u (Array.mem_toList_iff.1 (List.mem_of_mem_take hu))
        · exact c2 u (Array.mem_toList_iff.1 hu)
      · exact m4 u (Array.mem_toList_iff.1 (List.mem_of_mem_drop hu))
  | st_row _ i sz k jj t' es e a' _ hg he hpart hlen hle =>
    obtain ⟨v1, v2, e1, q1, q2⟩ := hr.two_inv
    simp only [List.cons.injEq, and_true] at e1
    obtain ⟨rfl, rfl⟩ := e1
    obtain ⟨g, o1, n, c, hx, hσ⟩ := q1.eptr_inv
    obtain ⟨c1, c2⟩ := q2.cells hpart
    obtain ⟨A, c', m1, m2, m3, m4, m5⟩ := hs.obj i _ hg
    rw [hσ] at m1
    simp only [Option.some.injEq, Value.slice.injEq] at m1
    obtain ⟨rfl, rfl, rfl⟩ := m1
    rcases m5 with ⟨m5, _⟩ | ⟨g', o', arr, m5, k1, k2, k3, k4⟩
    · cases m5
    simp only [Option.some.injEq, Addr.mk.injEq, and_true] at m5
    obtain ⟨rfl, rfl⟩ := m5
    have hkl : k < es.length := (List.getElem?_eq_some_iff.1 he).1
    have hel : e.length = sz := m2 e (List.mem_of_getElem? he)
    have hvl : (ev v).cells.toList.length = j.size := by rw [← c1.1]; exact hlen
    have hks : (k + 1) * sz ≤ c * sz := Nat.mul_le_mul_right _ (by omega)
    rw [Nat.add_mul, Nat.one_mul] at hks
    have hfit : o1 + k * sz + jj + (ev v).cells.toList.length ≤ arr.size := by rw [hvl]; omega
    have hspl : ∀ q, (arr.toList.take (o1 + k * sz + jj) ++ (ev v).cells.toList ++ arr.toList.drop (o1 + k * sz + jj + (ev v).cells.toList.length))[q]? = _ := fun q => splice_get arr.toList (ev v).cells.toList (o1 + k * sz + jj) q (by rw [Array.length_toList]; exact hfit)
    refine set_eff hs ho hi hg rfl hσ rfl k1 hx rfl rfl hvl (fun u hu => c2 u (Array.mem_toList_iff.1 hu)) hfit (hs.dom _ _ hσ) (fun w' hk hb => ⟨_, c, by rw [hσ, List.length_set], fun x hx => ?_, by rw [List.length_set]; exact m3, m4, .inr ⟨g, o1, _, rfl, hb, ?_, fun u hu => ?_, fun i' e' j' b he' hb' => ?_⟩⟩)
    · rcases List.mem_or_eq_of_mem_set hx with hx | hx
      · exact m2 x hx
      · subst hx
        rw [← hlen, splice_len _ _ _ (by omega)]; exact hel
    · rw [List.size_toArray, splice_len _ _ _ (by rw [Array.length_toList]; exact hfit), Array.length_toList]; exact k2
    · rw [← Array.mem_toList_iff, List.toList_toArray] at hu
      rcases List.mem_append.1 hu with hu | hu
      · rcases List.mem_append.1 hu with hu | hu
        · exact k3 u (Array.mem_toList_iff.1 (List.mem_of_mem_take hu))
        · exact c2 u (Array.mem_toList_iff.1 hu)
      · exact k3 u (Array.mem_toList_iff.1 (List.mem_of_mem_drop hu))
    · have hS : ∀ b, S b → w'.heap[b]? = w.heap[b]? := fun b hb' => hk b (fun e => hs.sep i _ b hg rfl (by rw [hσ, e]; rfl) hb')
      have mono : ∀ {a : AV} {v : Value}, Rp w S σ a v → Rp w' S σ a v := fun h => h.mono (fun _ h => h) hS (fun _ _ h => h)
      rw [List.getElem?_toArray, hspl, hvl]
      by_cases hik : k = i'
      · subst hik
        rw [List.getElem?_set_self hkl] at he'
        injection he' with he'
        subst he'
        rw [← hlen, splice_get _ _ _ _ (by omega), hlen] at hb'
        by_cases d1 : j' < jj
        · rw [if_pos d1] at hb'
          obtain ⟨u, hu, hru⟩ := k4 k e j' b he hb'
          exact ⟨u, by rw [if_pos (by omega), Array.getElem?_toList]; exact hu, mono hru⟩
        · rw [if_neg d1] at hb'
          by_cases d2 : j' < jj + j.size
          · rw [if_pos d2] at hb'
            obtain ⟨u, hu, hru⟩ := c1.at_ hb'
            refine ⟨u, ?_, mono hru⟩
            rw [if_neg (by omega), if_pos (by omega), show o1 + k * sz + j' - (o1 + k * sz + jj) = j' - jj by omega]; exact hu
          · rw [if_neg d2] at hb'
            obtain ⟨u, hu, hru⟩ := k4 k e j' b he hb'
            exact ⟨u, by rw [if_neg (by omega), if_neg (by omega), Array.getElem?_toList]; exact hu, mono hru⟩
      · rw [List.getElem?_set_ne hik] at he'
        obtain ⟨u, hu, hru⟩ := k4 i' e' j' b he' hb'
        have hj' : j' < sz := by have := (List.getElem?_eq_some_iff.1 hb').1; rw [m2 e' (List.mem_of_getElem? he')] at this; exact this
        refine ⟨u, ?_, mono hru⟩
        rcases Nat.lt_or_gt_of_ne hik with hlt | hgt
        · have : (k + 1) * sz ≤ i' * sz := Nat.mul_le_mul_right _ (by omega)
          rw [Nat.add_mul, Nat.one_mul] at this
          rw [if_neg (by omega), if_neg (by omega), Array.getElem?_toList]; exact hu
        · have : (i' + 1) * sz ≤ k * sz := Nat.mul_le_mul_right _ (by omega)
          rw [Nat.add_mul, Nat.one_mul] at this
          rw [if_pos (by omega), Array.getElem?_toList]; exact hu
theorem wr_mset {o : Oper} {t kt ve : TypeId} {m k v : Operand} {a : AV} {args : List AV} {id : Nat} {H' : AH} (hs : Sat P w S σ H) (ho : o.op = .mapUpdate t m k v ∨ o.op = .insert t m k v) (hu : P.underlying t = some (.map kt ve)) (hp : WrR P id (.mset kt) args H a H')
    (hr : Rps w S σ args [ev m, ev k, ev v]) : Eff P w S σ H ev o id a H' := by
  cases hp with
  | mset _ i n f key a' u _ hg K hv hk hn =>
    obtain ⟨v1, v2, v3, e1, q1, q2, q3⟩ := hr.three_inv
    simp only [List.cons.injEq, and_true] at e1
    obtain ⟨rfl, rfl, rfl⟩ := e1
    obtain ⟨g, hx, hσ⟩ := q1.mp_inv
    have hku := AV.val_sound hv q2
    obtain ⟨g', f', m1, m2, m3⟩ := hs.obj i _ hg
    rw [hσ] at m1
    simp only [Option.some.injEq, Value.map.injEq] at m1
    subst m1
    obtain ⟨w', hrun0, hmap, hgr⟩ := m2.store K hu hn hk (ev v)
    have hrun : (execOp ev o).run P w = .ok .skip w' := by
      rcases ho with ho | ho <;> simp [execOp, ho, hx, hku, hrun0]
    have hnone : ∀ x, σ i = some x → x = .map (some g) := fun x hx => by rw [hσ] at hx; injection hx with hx; exact hx.symm
    have hsp : sput σ i (.map (some g)) = σ := sput_id hσ
    have hbk : (σ i).bind blkOf = some g := by rw [hσ]; rfl
    have hkeep : ∀ b, b < w.heap.size → blkOf (.map (some g)) ≠ some b → w'.heap[b]? = w.heap[b]? := fun b hb hne => hgr.block b hb (fun e => hne (by rw [e]; rfl))
    have hS : ∀ b, S b → w'.heap[b]? = w.heap[b]? := fun b hb => hkeep b (hs.sb b hb) (fun e => hs.sep i _ b hg rfl (by rw [hσ]; exact e) hb)
    have hsat := hs.upd (w' := w') (k := i) (o' := .map kt (n + 1) (putA f u a')) (hs.dom _ _ hσ) hnone hgr.size hkeep (fun b hb => by
        simp only [blkOf, Option.some.injEq] at hb; subst hb
        exact ⟨hs.sep i _ g hg rfl hbk, fun k o2 hk h2 h3 h4 => hk (hs.dj k i o2 _ g h2 hg h3 rfl h4 hbk)⟩)
      (by
        rw [hsp]
        refine ⟨g, _, hσ, hmap, fun x => ?_⟩
        by_cases hxu : x = u
        · subst hxu; exact .inr ⟨a', ev v, putA_same _ _ _, putO_same _ _ _, q3.mono (fun _ h => h) hS (fun _ _ h => h)⟩
        · rw [putA_other _ _ hxu, putO_other _ _ hxu]
          rcases m3 x with h | ⟨b, y, h1, h2, h3⟩
          · exact .inl h
          · exact .inr ⟨b, y, h1, h2, h3.mono (fun _ h => h) hS (fun _ _ h => h)⟩)
      (fun j o b h1 h2 h3 => hs.lt h1 h2 h3) (fun A n c e => by cases e)
    have hext := Ext.upd (w' := w') (k := i) (o' := .map kt (n + 1) (putA f u a')) hs hnone hgr.os hgr.tape hgr.output hgr.size hkeep (fun b hb => by
        simp only [blkOf, Option.some.injEq] at hb; subst hb; exact .inl ⟨i, _, hg, rfl, hbk⟩)
    rw [hsp] at hsat hext
    exact ⟨_, _, σ, hrun, .inr ⟨rfl, rfl⟩, hsat, hext, fun _ _ => rfl⟩
end
end Go.Proofs.Ytgkkilbeingleaa
