/- Operations that lay new things, on abstract memory. Nothing of the program is named here. -/
import Derived.Test.YtcmnjoepadjioaaAw6
import Derived.Great.BuildSlice
import Derived.MapKept
namespace Go.Proofs.Ytcmnjoepadjioaa
open Go.RowKit Go.Maps

inductive AOp where
  | nw (t : TypeId) (z : List AV)
  | bx (t : TypeId)
  | bs (t sz len : Nat) (z : List AV) (pl : List (Nat × Nat))
  | ms (t sz bytes : Nat) (z : List AV)
  | mm (kt : TypeId)
inductive AlR (id : Nat) : AOp → List AV → AO → AV → Prop
  | nw (t : TypeId) (z : List AV) : AlR id (.nw t z) [] (.box t z) (.ptr id 0)
  | bx (t : TypeId) (a : AV) : a.part = true → AlR id (.bx t) [a] (.box t a.cells) (.ptr id 0)
  | bs (t sz len : Nat) (z : List AV) (pl : List (Nat × Nat)) (xs : List AV) (es : List (List AV)) : xs.all AV.part = true → es.length = len → (∀ e ∈ es, e.length = sz) → fillA (List.replicate len z).flatten pl xs = some es.flatten →
      AlR id (.bs t sz len z pl) xs (.row t sz es) (.osl id sz 0 len)
  | ms (t sz bytes : Nat) (z : List AV) (k k' : IntKind) (l c : Int) : 0 ≤ l → l ≤ c → c ≤ maxLen → c * bytes ≤ 140737488355328 → AlR id (.ms t sz bytes z) [.p (.int k l), .p (.int k' c)] (.row t sz (List.replicate l.toNat z)) (.osl id sz 0 l.toNat)
  | mm (kt : TypeId) : AlR id (.mm kt) [] (.map kt 0 (fun _ => none)) (.mp id)
def clsA (P : Program) (o : Op) : Option (AOp × List Operand) :=
  match o with
  | .alloc t => (zeroA P t).map fun z => (.nw t z, [])
  | .box t x => some (.bx t, [x])
  | .buildSlice t len parts => match P.underlying t with
    | some (.slice e) => match zeroA P e, P.info? e with
      | some z, some j => if j.size = 0 ∨ z.length ≠ j.size ∨ len * j.size > 2 ^ 24 ∨ len > maxLen then none else some (.bs e j.size len z (parts.toList.map fun x => (x.1 * j.size, j.size)), parts.toList.map (·.2))
      | _, _ => none
    | _ => none
  | .makeSlice t l c => match P.underlying t with
    | some (.slice e) => match zeroA P e, P.info? e with
      | some z, some j => if j.size = 0 ∨ z.length ≠ j.size then none else some (.ms e j.size j.bytes z, [l, c])
      | _, _ => none
    | _ => none
  | .makeMap t r => match P.underlying t, r with
    | some (.map kt _), none => some (.mm kt, [])
    | some (.map kt _), some (.const (.int _ _)) => some (.mm kt, [])
    | _, _ => none
  | _ => none

/-- what an operation does -/
def Eff (P : Program) (w : World) (S : Nat → Prop) (σ : Nat → Option Value) (H : AH) (ev : Operand → Value) (o : Oper) (id : Nat) (a : AV) (H' : AH) : Prop :=
  ∃ nx w' σ', (execOp ev o).run P w = .ok nx w' ∧ ((∃ v, nx = .value v ∧ Rp w' S σ' a v) ∨ (nx = .skip ∧ a = .any)) ∧ Sat P w' S σ' H' ∧ Ext w S σ H w' S σ' H' ∧ ∀ j, j ≠ id → σ' j = σ j

section
variable {P : Program} {w : World} {S : Nat → Prop} {σ : Nat → Option Value} {ev : Operand → Value} {H : AH}
theorem flat_at {z : List AV} (hz : 0 < z.length) : ∀ (n i : Nat), i < n * z.length → (List.replicate n z).flatten[i]? = z[i % z.length]?
  | 0, i, h => by simp at h
  | n + 1, i, h => by
    rw [List.replicate_succ, List.flatten_cons]
    by_cases hi : i < z.length
    · rw [List.getElem?_append_left hi, Nat.mod_eq_of_lt hi]
    · rw [List.getElem?_append_right (by omega), flat_at hz n (i - z.length) (by rw [Nat.add_mul, Nat.one_mul] at h; omega), Nat.mod_eq_sub_mod (a := i) (by omega)]
theorem flat_len {z : List AV} (n : Nat) : (List.replicate n z).flatten.length = n * z.length := by
  induction n with
  | zero => simp
  | succ n ih => rw [List.replicate_succ, List.flatten_cons, List.length_append, ih, Nat.add_mul]; omega
theorem zeros_rep {z : List AV} {zs : Array Value} (hr : Rps w S σ z zs.toList) (h1 : ∀ u ∈ zs, u.oneCell' = true) (hz : 0 < z.length) (n : Nat) :
    Rps w S σ (List.replicate n z).flatten ((Array.range (n * zs.size)).map (zs[· % zs.size]!)).toList ∧ ∀ u ∈ (Array.range (n * zs.size)).map (zs[· % zs.size]!), u.oneCell' = true := by
  have hl : z.length = zs.size := by rw [hr.1, Array.length_toList]
  have hat : ∀ i, i < n * zs.size → ∃ u, ((Array.range (n * zs.size)).map (zs[· % zs.size]!))[i]? = some u ∧ zs[i % zs.size]? = some u := by
    intro i hi
    have hm : i % zs.size < zs.size := Nat.mod_lt _ (by omega)
    refine ⟨zs[i % zs.size], ?_, Array.getElem?_eq_getElem hm⟩
    simp [hi, hm]
  refine ⟨⟨by rw [flat_len, hl]; simp, fun i a v ha hv => ?_⟩, fun u hu => ?_⟩
  · have hi : i < n * z.length := by rw [← flat_len]; exact (List.getElem?_eq_some_iff.1 ha).1
    rw [flat_at hz n i hi] at ha
    obtain ⟨u, q1, q2⟩ := hat i (by rw [← hl]; exact hi)
    rw [Array.getElem?_toList, q1] at hv
    injection hv with hv
    subst hv
    exact hr.2 _ a _ ha (by rw [hl, Array.getElem?_toList]; exact q2)
  · obtain ⟨i, hi⟩ := Array.getElem?_of_mem hu
    have hlt : i < n * zs.size := by have := (Array.getElem?_eq_some_iff.1 hi).1; simpa using this
    obtain ⟨x, q1, q2⟩ := hat i hlt
    rw [q1] at hi
    injection hi with hi
    subst hi
    exact h1 _ (Array.mem_of_getElem? q2)
theorem alloc_keep (w : World) (o : Obj) : ∀ b, b < w.heap.size → (w.alloc o).heap[b]? = w.heap[b]? := fun b hb => Below.heap_alloc w o b hb
/-- a new block -/
theorem new_eff (hs : Sat P w S σ H) {w1 : World} (hw1 : w1.heap = w.heap ∧ w1.os = w.os ∧ w1.tape = w.tape ∧ w1.output = w.output) {id : Nat} (hid : id < H.nx) (hσ : σ id = none) {o' : AO} {u : Value} {ob : Obj} {o : Oper} {a : AV}
    (hu : blkOf u = some w.heap.size) (hobj : ObjOk P (w1.alloc ob) S (sput σ id u) id o') (hsl : ∀ A n c, u = .slice A n c → n ≤ c ∧ (0 < c → ∃ g o, A = some ⟨g, o, none⟩) ∧ c ≤ maxLen)
    {v : Value} (hrun : (execOp ev o).run P w = .ok (.value v) (w1.alloc ob)) (ha : Rp (w1.alloc ob) S (sput σ id u) a v) : Eff P w S σ H ev o id a (H.put id o') := by
  obtain ⟨e1, e2, e3, e4⟩ := hw1
  have hnone : ∀ x, σ id = some x → x = u := fun x hx => by rw [hσ] at hx; cases hx
  have hkeep : ∀ b, b < w.heap.size → (w1.alloc ob).heap[b]? = w.heap[b]? := fun b hb => (alloc_keep w1 ob b (by rw [e1]; exact hb)).trans (by rw [e1])
  have hsz : w.heap.size ≤ (w1.alloc ob).heap.size := by simp [e1]
  refine ⟨_, _, sput σ id u, hrun, .inl ⟨v, rfl, ha⟩, hs.upd hid hnone hsz (fun b hb _ => hkeep b hb) (fun b hb => ?_) hobj (fun j o b h1 h2 h3 => hs.lt h1 h2 h3) hsl,
    Ext.upd hs hnone e2 e3 e4 hsz (fun b hb _ => hkeep b hb) (fun b hb => ?_), fun j hj => sput_ne hj⟩
  · rw [hu] at hb; injection hb with hb; subst hb
    exact ⟨fun h => Nat.lt_irrefl _ (hs.sb _ h), fun j o _ h1 h2 h3 => Nat.lt_irrefl _ (hs.lt h1 h2 h3)⟩
  · rw [hu] at hb; injection hb with hb; subst hb; exact .inr (Nat.le_refl _)
theorem Rps.new {cs : List AV} {vs : List Value} (h : Rps w S σ cs vs) (hs : Sat P w S σ H) (ob : Obj) {id : Nat} {u : Value} (hσ : σ id = none) : Rps (w.alloc ob) S (sput σ id u) cs vs :=
  h.mono (fun _ h => h) (fun b hb => alloc_keep w ob b (hs.sb b hb)) (sput_ext fun x hx => by rw [hσ] at hx; cases hx)
theorem box_eff (hs : Sat P w S σ H) {id : Nat} (hid : id < H.nx) (hσ : σ id = none) {t : TypeId} {cs : List AV} {arr : Array Value} {o : Oper} (hr : Rps w S σ cs arr.toList) (h1 : ∀ u ∈ arr, u.oneCell' = true)
    (hrun : (execOp ev o).run P w = .ok (.value (.pointer (some ⟨w.heap.size, 0, none⟩))) (w.alloc (.cells arr t))) : Eff P w S σ H ev o id (.ptr id 0) (H.put id (.box t cs)) :=
  new_eff hs ⟨rfl, rfl, rfl, rfl⟩ hid hσ (u := .pointer (some ⟨w.heap.size, 0, none⟩)) rfl ⟨_, arr, sput_self, Blk.new w t arr, hr.new hs _ hσ, h1⟩ (fun _ _ _ h => by cases h) hrun (.ptr id 0 _ sput_self)
/-- rows: elements, one behind the other -/
theorem flat_elem {sz : Nat} : ∀ {es : List (List AV)} (_ : ∀ e ∈ es, e.length = sz) (i : Nat) (e : List AV) (j : Nat) (a : AV), es[i]? = some e → e[j]? = some a → es.flatten[i * sz + j]? = some a
  | [], _, i, e, j, a, he, _ => by simp at he
  | x :: es, hl, i, e, j, a, he, ha => by
    have hx : x.length = sz := hl x (by simp)
    rw [List.flatten_cons]
    cases i with
    | zero =>
      simp at he; subst he
      rw [Nat.zero_mul, Nat.zero_add, List.getElem?_append_left (List.getElem?_eq_some_iff.1 ha).1]; exact ha
    | succ i =>
      rw [List.getElem?_append_right (by rw [hx, Nat.add_mul]; omega), hx, show (i + 1) * sz + j - sz = i * sz + j by rw [Nat.add_mul]; omega]
      exact flat_elem (fun e he => hl e (by simp [he])) i e j a (by simpa using he) ha
theorem flat_length {sz : Nat} : ∀ {es : List (List AV)} (_ : ∀ e ∈ es, e.length = sz), es.flatten.length = es.length * sz
  | [], _ => by simp
  | x :: es, hl => by
    rw [List.flatten_cons, List.length_append, flat_length fun e he => hl e (by simp [he]), hl x (by simp), List.length_cons, Nat.add_mul]; omega
/-- a new row: cells that begin with the elements -/
theorem row_eff1 (hs : Sat P w S σ H) {w1 : World} (hw1 : w1.heap = w.heap ∧ w1.os = w.os ∧ w1.tape = w.tape ∧ w1.output = w.output) {id : Nat} (hid : id < H.nx) (hσ : σ id = none) {t sz c : Nat} {es : List (List AV)} {arr : Array Value} {o : Oper} {rest : List AV} (hes : ∀ e ∈ es, e.length = sz)
    (hr : Rps w S σ (es.flatten ++ rest) arr.toList) (h1 : ∀ u ∈ arr, u.oneCell' = true)
    (hc : es.length ≤ c) (hcm : c ≤ maxLen) (hcs : c * sz ≤ arr.size)
    (hrun : (execOp ev o).run P w = .ok (.value (.slice (some ⟨w.heap.size, 0, none⟩) es.length c)) (w1.alloc (.cells arr t))) : Eff P w S σ H ev o id (.osl id sz 0 es.length) (H.put id (.row t sz es)) := by
  have hr' : Rps (w1.alloc (.cells arr t)) S (sput σ id (.slice (some ⟨w.heap.size, 0, none⟩) es.length c)) (es.flatten ++ rest) arr.toList :=
    hr.mono (fun _ h => h) (fun b hb => (alloc_keep w1 _ b (by rw [hw1.1]; exact hs.sb b hb)).trans (by rw [hw1.1])) (sput_ext fun x hx => by rw [hσ] at hx; cases hx)
  have hbn : Blk (w1.alloc (.cells arr t)) w.heap.size t arr := by rw [← hw1.1]; exact Blk.new w1 t arr
  refine new_eff hs hw1 hid hσ (u := .slice (some ⟨w.heap.size, 0, none⟩) es.length c) rfl ⟨_, c, sput_self, hes, hc, hcm, .inr ⟨w.heap.size, 0, arr, rfl, hbn, by omega, h1, fun i e j a he ha => ?_⟩⟩ ?_ hrun ?_
  · have hf := flat_elem hes i e j a he ha
    have hlt := (List.getElem?_eq_some_iff.1 hf).1
    obtain ⟨v, hv, hrv⟩ := hr'.at_ (i := i * sz + j) (a := a) (by rw [List.getElem?_append_left hlt]; exact hf)
    rw [Array.getElem?_toList] at hv
    exact ⟨v, by rw [Nat.zero_add]; exact hv, hrv⟩
  · intro A n c' h
    injection h with h1 h2 h3
    subst h1; subst h2; subst h3
    exact ⟨hc, fun _ => ⟨_, _, rfl⟩, hcm⟩
  · exact .osl _ _ _ _ _ _ es.length c c sput_self hc (by omega) (fun _ => by simp [addr_add])
theorem row_eff (hs : Sat P w S σ H) {id : Nat} (hid : id < H.nx) (hσ : σ id = none) {t sz c : Nat} {es : List (List AV)} {arr : Array Value} {o : Oper} {rest : List AV} (hes : ∀ e ∈ es, e.length = sz) (hr : Rps w S σ (es.flatten ++ rest) arr.toList) (h1 : ∀ u ∈ arr, u.oneCell' = true)
    (hc : es.length ≤ c) (hcm : c ≤ maxLen) (hcs : c * sz ≤ arr.size)
    (hrun : (execOp ev o).run P w = .ok (.value (.slice (some ⟨w.heap.size, 0, none⟩) es.length c)) (w.alloc (.cells arr t))) : Eff P w S σ H ev o id (.osl id sz 0 es.length) (H.put id (.row t sz es)) :=
  row_eff1 hs ⟨rfl, rfl, rfl, rfl⟩ hid hσ hes hr h1 hc hcm hcs hrun
theorem al_sound (hev : ∀ v, ev (.const v) = v) {o : Oper} {ao : AOp} {xs : List Operand} {args : List AV} {a : AV} {o' : AO} {id : Nat} (hs : Sat P w S σ H) (hid : id < H.nx) (hσ : σ id = none) (hc : clsA P o.op = some (ao, xs)) (hp : AlR id ao args o' a) (hr : Rps w S σ args (xs.map ev)) : Eff P w S σ H ev o id a (H.put id o') := by
  cases ho : o.op <;> rw [ho] at hc <;> simp only [clsA] at hc <;> try (cases hc; done)
  case alloc t =>
    cases hz : zeroA P t with
    | none => rw [hz] at hc; cases hc
    | some z =>
      rw [hz] at hc
      simp only [Option.map_some, Option.some.injEq, Prod.mk.injEq] at hc
      obtain ⟨rfl, rfl⟩ := hc
      cases hp
      obtain ⟨v, hv, _, q1, q2⟩ := zeroA_run (P := P) (w := w) (S := S) (σ := σ) hz
      exact box_eff hs hid hσ q1 q2 (by simp [execOp, ho, Instr.alloc, hv, newVar, newRow])
  case box t x =>
    simp only [Option.some.injEq, Prod.mk.injEq] at hc
    obtain ⟨rfl, rfl⟩ := hc
    cases hp with
    | bx _ a hpart =>
      obtain ⟨v, e, h⟩ := hr.one_inv
      injection e with e; subst e
      obtain ⟨q1, q2⟩ := h.cells hpart
      exact box_eff hs hid hσ q1 q2 (by simp [execOp, ho, Instr.box, newVar, newRow])
  case buildSlice t len parts =>
    cases hu : P.underlying t with
    | none => rw [hu] at hc; cases hc
    | some d =>
      rw [hu] at hc
      cases d <;> (try simp only at hc) <;> try (cases hc; done)
      rename_i e
      cases hz : zeroA P e with
      | none => rw [hz] at hc; cases hc
      | some z =>
        cases hi : P.info? e with
        | none => rw [hz, hi] at hc; cases hc
        | some j =>
          rw [hz, hi] at hc
          simp only at hc
          split at hc
          · cases hc
          · rename_i hcond
            simp only [not_or, ne_eq, Decidable.not_not] at hcond
            obtain ⟨c1, c2, c3, c4⟩ := hcond
            simp only [Option.some.injEq, Prod.mk.injEq] at hc
            obtain ⟨rfl, rfl⟩ := hc
            cases hp with
            | bs _ _ _ _ _ _ es hall hlen hes hf =>
              subst hlen
              obtain ⟨v, hv, _, q1, q2⟩ := zeroA_run (P := P) (w := w) (S := S) (σ := σ) hz
              have hzl : v.cells.size = j.size := by rw [← c2, q1.1, Array.length_toList]
              obtain ⟨z1, z2⟩ := zeros_rep q1 q2 (by omega) es.length
              rw [hzl] at z1 z2
              have hxs : ((parts.map fun x => (x.1, ev x.2)).toList).map (·.2) = (parts.toList.map (·.2)).map ev := by simp
              obtain ⟨us, g1, g2, g3⟩ := fill_sound (place := fun i => some (i * j.size, j.size)) (parts.map fun x => (x.1, ev x.2)).toList (parts.toList.map fun x => (x.1 * j.size, j.size)) args _ es.flatten _ hall (by rw [hxs]; exact hr) (by simp) hf z1 z2
              have husz : us.size = es.length * j.size := by rw [← Array.length_toList, ← g2.1, flat_length hes]
              refine row_eff hs hid hσ (c := es.length) (rest := []) hes (by simpa using g2) g3 (Nat.le_refl _) (by omega) (by omega) ?_
              by_cases h0 : es.length = 0
              · have hes0 : es = [] := List.eq_nil_of_length_eq_zero h0
                subst hes0
                simp only [List.length_nil, Nat.zero_mul, Array.range_zero', Array.map_empty] at g1 husz ⊢
                have g2' : Instr.fill (fun i => some (i * j.size, j.size)) #[] (List.map (fun x => (x.fst, ev x.snd)) parts.toList) = some us := by simpa using g1
                simp [execOp, ho, Instr.buildSlice, run_underlying hu, sizeOf, typeInfo, hi, Array.range_zero', g2', newRow]
              · have hne : ¬ es.length * j.size = 0 := Nat.mul_ne_zero h0 c1
                have hle : ¬ (2 ^ 24 < es.length * j.size) := by omega
                have hzz : j.zero = some v := by
                  cases hzz : j.zero with
                  | none => simp [zeroValue, typeInfo, hi, hzz] at hv
                  | some v' => simp [zeroValue, typeInfo, hi, hzz] at hv; rw [hv]
                have := run_buildSlice (P := P) w t e es.length (parts.map fun x => (x.1, ev x.2)) us j v hu hi hzz (by omega) hne (by rw [hzl]; exact g1)
                simp [execOp, ho, this]
  case makeSlice t l c =>
    cases hu : P.underlying t with
    | none => rw [hu] at hc; cases hc
    | some d =>
      rw [hu] at hc
      cases d <;> (try simp only at hc) <;> try (cases hc; done)
      rename_i e
      cases hz : zeroA P e with
      | none => rw [hz] at hc; cases hc
      | some z =>
        cases hi : P.info? e with
        | none => rw [hz, hi] at hc; cases hc
        | some j =>
          rw [hz, hi] at hc
          simp only at hc
          split at hc
          · cases hc
          · rename_i hcond
            simp only [not_or, ne_eq, Decidable.not_not] at hcond
            obtain ⟨c1, c2⟩ := hcond
            simp only [Option.some.injEq, Prod.mk.injEq] at hc
            obtain ⟨rfl, rfl⟩ := hc
            cases hp with
            | ms _ _ _ _ k k' li ci l0 l1 l2 l3 =>
              obtain ⟨v1, v2, e1, q3, q4⟩ := hr.two_inv
              simp only [List.map_cons, List.map_nil, List.cons.injEq, and_true] at e1
              obtain ⟨rfl, rfl⟩ := e1
              have hx := q3.p_inv.1
              have hy := q4.p_inv.1
              obtain ⟨v, hv, _, q1, q2⟩ := zeroA_run (P := P) (w := w) (S := S) (σ := σ) hz
              have hzl : v.cells.size = j.size := by rw [← c2, q1.1, Array.length_toList]
              obtain ⟨z1, z2⟩ := zeros_rep q1 q2 (by omega) ci.toNat
              have hml : maxLen = 9223372036854775807 := by decide
              have hsplit : (List.replicate ci.toNat z).flatten = (List.replicate li.toNat z).flatten ++ (List.replicate (ci.toNat - li.toNat) z).flatten := by
                rw [← List.flatten_append, List.replicate_append_replicate]; congr 2; omega
              have := row_eff (ev := ev) (o := o) (t := e) (sz := j.size) hs hid hσ (c := ci.toNat) (es := List.replicate li.toNat z) (rest := (List.replicate (ci.toNat - li.toNat) z).flatten) (arr := (Array.range (ci.toNat * v.cells.size)).map (v.cells[· % v.cells.size]!))
                (fun x hx => by rw [List.eq_of_mem_replicate hx]; exact c2) (by rw [← hsplit]; exact z1) z2 (by simp; omega) (by omega) (by simp [hzl]) ?_
              · simpa using this
              · have hzz : j.zero = some v := by
                  cases hzz : j.zero with
                  | none => simp [zeroValue, typeInfo, hi, hzz] at hv
                  | some v' => simp [zeroValue, typeInfo, hi, hzz] at hv; rw [hv]
                have := run_make (P := P) w t e j v hu hi hzz k k' li ci l0 l1 (by rw [Int.mul_comm]; omega) (by omega)
                simp only [madeCells] at this
                simp [execOp, ho, hx, hy, this, hzl]
  case makeMap t r =>
    have fin : ∀ kt, ao = .mm kt → xs = [] → (Instr.makeMap t (r.map ev)).run P w = .ok (.map (some w.heap.size)) (w.alloc (.map #[] 0)) → Eff P w S σ H ev o id a (H.put id o') := by
      intro kt h1 h2 hrun
      subst h1
      cases hp
      exact new_eff hs ⟨rfl, rfl, rfl, rfl⟩ hid hσ (u := .map (some w.heap.size)) rfl ⟨_, fun _ => none, sput_self, MapOf.made w P kt, fun k => .inl ⟨rfl, rfl⟩⟩ (fun _ _ _ h => by cases h) (by simp [execOp, ho, hrun]) (.mp _ _ sput_self)
    revert hc
    split
    · rename_i kt ve h1
      intro hc
      simp only [Option.some.injEq, Prod.mk.injEq] at hc
      exact fin kt hc.1.symm hc.2.symm rfl
    · rename_i kt ve k n h1
      intro hc
      simp only [Option.some.injEq, Prod.mk.injEq] at hc
      refine fin kt hc.1.symm hc.2.symm ?_
      simp [hev, Instr.makeMap, run_underlying h1, asInt, asIntOf]
    · intro hc; cases hc
end
end Go.Proofs.Ytcmnjoepadjioaa
